import Derived.Test.YtkdakmddlkgjkaaRefA
open Go.RowKit Go.Lib
namespace Go.Proofs.Ytkdakmddlkgjkaa
set_option maxRecDepth 100000
open Sha
set_option maxHeartbeats 1000000 in
theorem padded_c (s : ByteArray) (w : World) (hs : s.size ≤ 1407374883552) :
    Calls Try.prog 83 #[.string s] w fun e w' => ∃ v, e = .returned v ∧ OwnB w' w.heap.size v (s.data.toList ++ pad s.data.toList.length) ∧ Below w.heap.size w w' := by
  obtain ⟨l, hl⟩ : ∃ l, s.data.toList = l := ⟨_, rfl⟩
  obtain ⟨n, hn⟩ : ∃ n, s.size = n := ⟨_, rfl⟩
  have hln : l.length = n := by rw [← hl, ← hn]; simp
  rw [hl, hln]
  have hnb : n ≤ 1407374883552 := by omega
  have HLN := Hd.mk hln
  have HL := Hd.mk hl
  have HN := Hd.mk hn
  clear hl hn hln
  go_enter Try.func83, Try.ntmps83
  go_wp2_with (first
    | ((with_reducible refine wpList_plain rfl fun K hK => W_convB (.tmp 6) s ?hp fun cp w1 h1 h2 h3 => hK _ _ ?_); (case hp => exact ⟨rfl, by omega⟩); have G1 := Hd.mk h1; have G2 := Hd.mk h2; have G3 := Hd.mk h3; clear h1 h2 h3)
    | ((with_reducible refine wpList_plain rfl fun K hK => W_appB (.tmp 7) (.tmp 8) w1.heap.size 1 [0x80] (0, 0) [] (G1.out.alloc _) ?hq fun v2 w2 h2 h3 h4 => hK _ _ ?_); (case hq => exact ⟨rfl, rfl, blk_new _ _ _ _ _ rfl, by rw [HL.out, HLN.out]; simp; omega, by rw [sz_alloc]; have := G2.out.size; omega⟩); have G4 := Hd.mk h2; have G5 := Hd.mk h3; clear h2 h3 h4))
  have G6 : Hd (Below w.heap.size w w2) := ⟨Below.app (G2.out.alloc G2.out.size _) G5.out (G1.out.alloc _) (by rw [sz_alloc]; have := G2.out.size; omega) (Nat.le_refl _)⟩
  have G7 : Hd (OwnB w2 w.heap.size v2 (l ++ [0x80])) := ⟨by rw [← HL.out]; exact G4.out⟩
  obtain ⟨pa, pc, hv2⟩ := G7.out.form (n + 1) (by rw [List.length_append, HLN.out]; rfl)
  subst hv2
  go_loopw [3] (fun x wr => ∃ j : Nat, j ≤ zs n ∧ OwnB wr w.heap.size x (l ++ 0x80 :: List.replicate j 0) ∧ Below w.heap.size w wr ∧ (∃ p c, x = .slice p (n + (j + 1)) c)) (fun x _ => n + 200 - (match x with | .slice _ l _ => l | _ => 0))
  case atStart => exact ⟨0, Nat.zero_le _, G7.out, G6.out, _, _, rfl⟩
  case round =>
    clear G1 G2 G3 G4 G5 G6 G7
    obtain ⟨j, hj, hown, hb, p, c, rfl⟩ := hrel
    have hj63 : j ≤ 63 := by unfold zs at hj; omega
    have hz := hb.size
    have HO := Hd.mk hown
    have HB := Hd.mk hb
    have HJ := Hd.mk hj
    clear hown hb hj
    by_cases hc : (n + (j + 1)) % 64 = 56
    · have hc1 : (((n : Int) + ((j : Int) + 1)) % 64 != 56) = false := by rw [bne_eq_false_iff_eq]; omega
      have HC := Hd.mk hc
      clear hc
      rw [HN.out]
      go_wp2_with fail
      have hjz : j = zs n := by have := HC.out; have := HJ.out; unfold zs at *; omega
      have HO2 : Hd (OwnB wr w.heap.size (.slice p (n + (j + 1)) c) (l ++ 0x80 :: List.replicate (zs n) 0)) := ⟨hjz ▸ HO.out⟩
      clear hjz
      go_loopw [3, 5] (fun x y wr => ∃ i : Nat, i ≤ 8 ∧ y = .int .i64 (7 - (i : Int)) ∧ OwnB wr w.heap.size x ((l ++ 0x80 :: List.replicate (zs n) 0) ++ (be8 (8 * n)).take i) ∧ Below w.heap.size w wr) (fun _ y _ => (intOf y + 1).toNat)
      case atStart => exact ⟨0, by omega, rfl, by rw [List.take_zero, List.append_nil]; exact HO2.out, HB.out⟩
      case round =>
        clear HO2 HO HB HC HJ
        obtain ⟨i, hi, rfl, hown, hb⟩ := hrel
        have hz := hb.size
        have HO := Hd.mk hown
        have HB := Hd.mk hb
        clear hown hb
        by_cases hlt : i < 8
        · obtain ⟨b, hbb⟩ : ∃ b : UInt8, b = UInt8.ofNat (8 * n / 2 ^ (56 - 8 * i)) := ⟨_, rfl⟩
          have HBB := Hd.mk hbb
          clear hbb
          have HE : Hd (8 * (s.size : Int) / 2 ^ (8 * (7 - i)) % 256 = (b.toNat : Int)) := ⟨by rw [HN.out, HBB.out, Int.mul_comm, show 8 * (7 - i) = 56 - 8 * i by omega]; exact byte_eq n _⟩
          have HL2 : Hd (((l ++ 0x80 :: List.replicate (zs n) 0) ++ (be8 (8 * n)).take i).length ≤ n + 100) := ⟨by simp [be8, zs, HLN.out]; omega⟩
          go_wp2_with (first
            | ((with_reducible refine wpList_plain rfl fun K hK => W_buildB 1 [.tmp 31] [b] ?hq (hK _ _ ?_)); (case hq => exact ⟨congrArg (fun z => [Value.int .u8 z]) HE.out, rfl, by decide, by decide⟩))
            | ((with_reducible refine wpList_plain rfl fun K hK => W_appB (.tmp 25) (.tmp 32) wr.heap.size 1 [b] (0, 0) [] (HO.out.alloc _) ?hp fun v' w' h2 h3 h4 => hK _ _ ?_); (case hp => exact ⟨rfl, rfl, blk_new _ _ _ _ _ rfl, by have := HL2.out; simp only [List.length_cons, List.length_nil]; omega, by rw [sz_alloc]; omega⟩); have H2 := Hd.mk h2; have H3 := Hd.mk h3; clear h2 h3 h4))
          go_roundw
          case rel =>
            refine ⟨i + 1, hlt, congrArg (Value.int .i64) (by omega), ?_, Below.app (HB.out.alloc (by omega) _) H3.out (HO.out.alloc _) (by rw [sz_alloc]; omega) (Nat.le_refl _)⟩
            rw [be8_succ _ _ hlt, ← List.append_assoc, ← HBB.out]
            exact H2.out
          case measure => simp [intOf]; omega
        · have hv := HO.out
          rw [List.take_of_length_le (by simp [be8]; omega)] at hv
          have hp : (l ++ 0x80 :: List.replicate (zs n) 0) ++ be8 (8 * n) = l ++ pad n := by rw [List.append_assoc]; rfl
          rw [hp] at hv
          have HV := Hd.mk hv
          clear hv hp
          go_wp2
          go_ret
          exact ⟨_, rfl, HV.out, HB.out⟩
    · have hc1 : (((n : Int) + ((j : Int) + 1)) % 64 != 56) = true := by rw [bne_iff_ne]; omega
      have HC := Hd.mk hc
      clear hc
      go_wp2_with ((with_reducible refine wpList_plain rfl fun K hK => W_appB (.tmp 14) (.tmp 15) wr.heap.size 1 [0] (0, 0) [] (HO.out.alloc _) ?hp fun v' w' h2 h3 h4 => hK _ _ ?_); (case hp => exact ⟨rfl, rfl, blk_new _ _ _ _ _ rfl, by simp [HLN.out]; omega, by rw [sz_alloc]; omega⟩); have H2 := Hd.mk h2; have H3 := Hd.mk h3; clear h2 h3 h4)
      go_roundw
      case rel =>
        have hf := H2.out.form (n + (j + 1 + 1)) (by simp [HLN.out])
        refine ⟨j + 1, by have := HJ.out; have := HC.out; unfold zs at *; omega, ?_, Below.app (HB.out.alloc (by omega) _) H3.out (HO.out.alloc _) (by rw [sz_alloc]; omega) (Nat.le_refl _), hf⟩
        have := H2.out
        rw [List.append_assoc, List.cons_append, ← List.replicate_succ'] at this
        exact this
      case measure =>
        obtain ⟨a, c', hf⟩ := H2.out.form (n + (j + 1 + 1)) (by simp [HLN.out])
        rw [hf]; simp; omega
end Go.Proofs.Ytkdakmddlkgjkaa
