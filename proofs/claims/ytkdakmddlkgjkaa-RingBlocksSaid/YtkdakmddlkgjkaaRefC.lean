import Derived.Test.YtkdakmddlkgjkaaRefB
open Go.RowKit Go.Lib
namespace Go.Proofs.Ytkdakmddlkgjkaa
set_option maxRecDepth 100000
open Sha
theorem later_cell {w : World} {b i : Nat} {v : Value} (hb : b < w.heap.size) (h : w.cell? ⟨b, i, none⟩ = some v) (x : Later (fun u v => Below u.heap.size u v) w.drew) : x.w.cell? ⟨b, i, none⟩ = some v := by
  have hbe : Below w.drew.heap.size w.drew x.w := x.h
  rw [hbe.cell (p := ⟨b, i, none⟩) hb]
  exact h
set_option maxHeartbeats 1000000 in
theorem words_c (bv : Value) (l : List UInt8) (w : World) (hl : l.length = 64) (h : RdB w bv l) :
    Calls Try.prog 84 #[bv] w fun e w' => ∃ v, e = .returned v ∧ OwnU w' w.heap.size v (sched l 64) ∧ Below w.heap.size w w' := by
  obtain ⟨a, cp, rfl, hcp, ha, hcell⟩ := h
  rw [hl] at hcp ⊢
  cases a with
  | none => have := ha rfl; omega
  | some ad =>
  obtain ⟨b, off, spot⟩ := ad
  obtain ⟨g1, g2, g3⟩ := hcell _ rfl
  simp only at g1 g2 g3
  subst g1
  clear hcell ha
  have HC := Hd.mk g3
  have HG := Hd.mk g2
  have HL := Hd.mk hl
  clear g3 g2 hl
  go_enter Try.func84, Try.ntmps84
  go_wp2
  go_loopw [3, 4] (fun x i wr => ∃ k : Nat, i = .int .i64 k ∧ k ≤ 16 ∧ OwnU wr w.heap.size x (sched l k) ∧ Below w.heap.size w wr) (fun _ i _ => 16 - (intOf i).toNat)
  case atStart => exact ⟨0, rfl, by omega, OwnU.nil _ _, Below.refl _ _⟩
  case round =>
    obtain ⟨k, rfl, hk, hown, hb⟩ := hrel
    have hz := hb.size
    have HO := Hd.mk hown
    have HB := Hd.mk hb
    clear hown hb
    by_cases hlt : k < 16
    · have key : ∀ j (hj : 4 * k + j < l.length) (y : UInt8), y = (l.drop (4 * k)).getD j 0 → ∀ x : Later (fun u v => Below u.heap.size u v) wr.drew, x.w.cell? ⟨b, off + (4 * k + j), none⟩ = some (.int .u8 (y.toNat : Int)) := by
        intro j hj y hy x
        refine later_cell (Nat.lt_of_lt_of_le HG.out hz) ?_ x
        rw [HB.out.cell (p := ⟨b, off + (4 * k + j), none⟩) HG.out, HC.out _ hj, hy, List.getD_eq_getElem?_getD, List.getElem?_drop, List.getElem?_eq_getElem hj]
        rfl
      obtain ⟨y0, e0⟩ : ∃ y, y = (l.drop (4 * k)).getD 0 0 := ⟨_, rfl⟩
      obtain ⟨y1, e1⟩ : ∃ y, y = (l.drop (4 * k)).getD 1 0 := ⟨_, rfl⟩
      obtain ⟨y2, e2⟩ : ∃ y, y = (l.drop (4 * k)).getD 2 0 := ⟨_, rfl⟩
      obtain ⟨y3, e3⟩ : ∃ y, y = (l.drop (4 * k)).getD 3 0 := ⟨_, rfl⟩
      have d0 := key 0 (by rw [HL.out]; omega) y0 e0
      have d1 := key 1 (by rw [HL.out]; omega) y1 e1
      have d2 := key 2 (by rw [HL.out]; omega) y2 e2
      have d3 := key 3 (by rw [HL.out]; omega) y3 e3
      rw [Nat.add_zero] at d0
      have HE : Hd (word (l.drop (4 * k)) = y0.toUInt32 <<< 24 ||| y1.toUInt32 <<< 16 ||| y2.toUInt32 <<< 8 ||| y3.toUInt32) := ⟨by rw [word, ← e0, ← e1, ← e2, ← e3]⟩
      have HV : Hd (bits .or .u32 (bits .or .u32 (bits .or .u32 ((y0.toNat : Int) % 4294967296 * 16777216 % 4294967296) ((y1.toNat : Int) % 4294967296 * 65536 % 4294967296)) ((y2.toNat : Int) % 4294967296 * 256 % 4294967296)) ((y3.toNat : Int) % 4294967296) = un (word (l.drop (4 * k)))) :=
        ⟨by rw [HE.out]; simp only [u_byte]; simp only [u_shl24, u_shl16, u_shl8, u_or]⟩
      clear key e0 e1 e2 e3 HE
      go_wp2
      refine region_ext [0, 0, 0, 0, 0, 0, 0, 0, 0, 0, 0, 0, 0, 0, 0, 0, 0, 0, 0, 0, 0, 0, 0, 0, 0, 0, 0, 0, 0, 0, 0, 0, 0, 0, 2, 1, 1] (by kernel_rfl) (by kernel_rfl) (fun _ _ _ _ _ h => h) ?_
      simp (decide := true) only [pick, ↓reduceIte]
      repeat go_big_quiet_step (fail)
      refine wpQuiet_nil ?_
      refine wpF_plain rfl ?_
      refine W_buildU 1 [.tmp 47] [word (l.drop (4 * k))] ?hq ?_
      case hq => exact ⟨congrArg (fun z => [Value.int .u32 z]) HV.out, rfl, by decide, by decide⟩
      refine ⟨(Below.refl _ _).alloc (Nat.le_refl _) _, wpF_nil ?_⟩
      have HO1 := Hd.mk (OwnU.alloc (w := wr.drew) HO.out (.cells (List.map u32v [word (l.drop (4 * k))]).toArray 133))
      go_wp2_with ((with_reducible refine wpList_plain rfl fun K hK => W_appU (.tmp 14) (.tmp 48) wr.drew.heap.size 1 [word (l.drop (4 * k))] (0, 0) HO1.out ?hp fun v' w' h2 h3 => hK _ _ ?_); (case hp => exact ⟨rfl, rfl, blk_new _ _ _ _ _ rfl, by rw [sched_len]; simp only [List.length_cons, List.length_nil]; omega, by rw [sz_alloc]; show _ ≤ wr.heap.size + 1; omega⟩); have H2 := Hd.mk h2; have H3 := Hd.mk h3; clear h2 h3)
      go_roundw
      case rel =>
        refine ⟨k + 1, by go_num, hlt, ?_, Below.app ((Below.drew HB.out).alloc hz _) H3.out HO1.out (by rw [sz_alloc]; show _ ≤ wr.heap.size + 1; omega) (Nat.le_refl _)⟩
        rw [sched_succ, nxt, if_pos hlt]
        exact H2.out
      case measure => simp [intOf]; omega
    · have hk16 : k = 16 := by omega
      have HO2 : Hd (OwnU wr w.heap.size _ (sched l 16)) := ⟨hk16 ▸ HO.out⟩
      clear hk16
      go_wp2
      go_loopw [3, 5] (fun x i wr => ∃ j : Nat, i = .int .i64 ((j : Int) + 16) ∧ j ≤ 48 ∧ OwnU wr w.heap.size x (sched l (j + 16)) ∧ Below w.heap.size w wr) (fun _ i _ => 64 - (intOf i).toNat)
      case atStart => exact ⟨0, rfl, by omega, HO2.out, HB.out⟩
      case round =>
        clear HO HO2 HB
        obtain ⟨j, rfl, hj, hown, hb⟩ := hrel
        have hz := hb.size
        have HO := Hd.mk hown
        have HB := Hd.mk hb
        have hlen := sched_len l (j + 16)
        obtain ⟨g, c, rfl, hc, hg, hcell⟩ := hown.rd (by omega)
        rw [hlen] at hc
        have HCC : Hd (∀ i (hi : i < j + 16), wr.cell? ⟨g, i, none⟩ = some (.int .u32 (un ((sched l (j + 16)).getD i 0)))) := ⟨fun i hi => by
          rw [hcell i (by omega), List.getD_eq_getElem?_getD, List.getElem?_eq_getElem (by omega)]; rfl⟩
        rw [hlen]
        have HLN := Hd.mk hlen
        rw [hlen] at HO
        have HGG := Hd.mk hg
        clear hown hb hcell hg hlen
        by_cases hlt : j < 48
        · obtain ⟨x3, e3⟩ : ∃ x, x = (sched l (j + 16)).getD (j + 1) 0 := ⟨_, rfl⟩
          have c3 : wr.cell? ⟨g, j + 1, none⟩ = some (.int .u32 (un x3)) := by rw [HCC.out _ (by omega), e3]
          obtain ⟨x4, e4⟩ : ∃ x, x = (sched l (j + 16)).getD (j + 14) 0 := ⟨_, rfl⟩
          have c4 : wr.cell? ⟨g, j + 14, none⟩ = some (.int .u32 (un x4)) := by rw [HCC.out _ (by omega), e4]
          obtain ⟨x5, e5⟩ : ∃ x, x = (sched l (j + 16)).getD j 0 := ⟨_, rfl⟩
          have c5 : wr.cell? ⟨g, j, none⟩ = some (.int .u32 (un x5)) := by rw [HCC.out _ (by omega), e5]
          obtain ⟨x6, e6⟩ : ∃ x, x = (sched l (j + 16)).getD (j + 9) 0 := ⟨_, rfl⟩
          have c6 : wr.cell? ⟨g, j + 9, none⟩ = some (.int .u32 (un x6)) := by rw [HCC.out _ (by omega), e6]
          have d5 := later_cell HGG.out c5
          have d6 := later_cell HGG.out c6
          have HN : Hd (nxt l (j + 16) = x5 + (ror x3 7 ^^^ ror x3 18 ^^^ x3 >>> 3) + x6 + (ror x4 17 ^^^ ror x4 19 ^^^ x4 >>> 10)) := ⟨by
            rw [nxt, if_neg (by omega), show j + 16 - 16 = j by omega, show j + 16 - 15 = j + 1 by omega, show j + 16 - 7 = j + 9 by omega, show j + 16 - 2 = j + 14 by omega, ← e3, ← e4, ← e5, ← e6]
            rfl⟩
          clear e3 e4 e5 e6 c5 c6
          have A1 := u_xor
          have A2 := u_add
          have A3 := u_shr3
          have A4 := u_shr10
          go_wp2_with (go_at_call 98; refine (rr_i _ _ _ (by omega) (by omega)).mono ?_; rintro e w' ⟨rfl, rfl⟩)
          refine region_ext [0, 0, 0, 0, 0, 0, 0, 0, 0, 0, 0, 0, 0, 0, 0, 0, 2, 1, 1] (by kernel_rfl) (by kernel_rfl) (fun _ _ _ _ _ h => h) ?_
          simp (decide := true) only [pick, ↓reduceIte]
          repeat go_big_quiet_step (fail)
          refine wpQuiet_nil ?_
          refine wpF_plain rfl ?_
          refine W_buildU 1 [.tmp 95] [nxt l (j + 16)] ?hq ?_
          case hq => rw [HN.out]; first | exact ⟨rfl, rfl, by decide, by decide⟩ | exact ⟨congrArg (fun z => [Value.int .u32 z]) (u_add _ _), rfl, by decide, by decide⟩ | exact ⟨congrArg (fun z => [Value.int .u32 z]) (u_add4 _ _ _ _), rfl, by decide, by decide⟩
          refine ⟨(Below.refl _ _).alloc (Nat.le_refl _) _, wpF_nil ?_⟩
          have HO1 := Hd.mk (OwnU.alloc (w := wr.drew) HO.out (.cells (List.map u32v [nxt l (j + 16)]).toArray 133))
          go_wp2_with ((with_reducible refine wpList_plain rfl fun K hK => W_appU (.tmp 80) (.tmp 96) wr.drew.heap.size 1 [nxt l (j + 16)] (0, 0) HO1.out ?hp fun v' w' h2 h3 => hK _ _ ?_); (case hp => exact ⟨rfl, rfl, blk_new _ _ _ _ _ rfl, by rw [HLN.out]; simp only [List.length_cons, List.length_nil]; omega, by rw [sz_alloc]; show _ ≤ wr.heap.size + 1; omega⟩); have H2 := Hd.mk h2; have H3 := Hd.mk h3; clear h2 h3)
          go_roundw
          case rel =>
            refine ⟨j + 1, by go_num, by omega, ?_, Below.app ((Below.drew HB.out).alloc hz _) H3.out HO1.out (by rw [sz_alloc]; show _ ≤ wr.heap.size + 1; omega) (Nat.le_refl _)⟩
            rw [show j + 1 + 16 = (j + 16) + 1 by omega, sched_succ]
            exact H2.out
          case measure => simp [intOf]; omega
        · have hj48 : j = 48 := by omega
          have HV : Hd (OwnU wr w.heap.size (.slice (some ⟨g, 0, none⟩) (j + 16) c) (sched l 64)) := ⟨by have := HO.out; rw [hj48] at this ⊢; exact this⟩
          clear hj48 HO HCC
          go_wp2
          go_ret
          exact ⟨_, rfl, HV.out, HB.out⟩
end Go.Proofs.Ytkdakmddlkgjkaa
