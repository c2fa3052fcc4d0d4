import Derived.Outline
import Derived.Deep.RegionHeld3
import Derived.Deep.DeepCutAuto
import Derived.WalkMore
import Derived.Test.YtkdakmddlkgjkaaSl
open Go.RowKit Go.Lib
namespace Go.Proofs.Ytkdakmddlkgjkaa
set_option maxRecDepth 100000
/-! slots.Write. -/
/-- copy(dst, s), s no shorter than dst -/
theorem run_copy_long {P : Program} (w : World) (dT sT ty elem : TypeId) (b o dLen dCap : Nat) (t : ByteArray)
    (hu : P.underlying dT = some (.slice elem)) (hz : ∀ w, (Go.sizeOf elem).run P w = .ok 1 w) (hle : dLen ≤ t.size)
    (hc : ∀ j, j < dLen → (w.cell? ⟨b, o + j, none⟩).isSome = true) (hf : ∀ j, j < dLen → w.frozen? ⟨b, o + j, none⟩ = false) :
    (Builtin.copy_ #[dT, sT] ty #[.slice (some ⟨b, o, none⟩) dLen dCap, .string t]).run P w = .ok (goInt dLen) (w.setCells b o ((t.data.toList.take dLen).map fun x => Value.int .u8 (x.toNat : Int))) := by
  have hmin : Nat.min t.size dLen = dLen := Nat.min_eq_right hle
  have hl : ((t.data.toList.take dLen).map fun x => Value.int .u8 (x.toNat : Int)).length = dLen := by
    rw [List.length_map, List.length_take]; have : t.data.toList.length = t.size := by simp
    omega
  have hst := run_storeCells_cells (P := P) b o ((t.data.toList.take dLen).map fun x => Value.int .u8 (x.toNat : Int)) 0 w (by rw [hl]; simpa using hc) (by rw [hl]; simpa using hf) (by
    intro v hv
    obtain ⟨x, _, rfl⟩ := List.mem_map.1 hv
    rfl)
  have hex : (t.extract 0 dLen).data.toList = t.data.toList.take dLen := by simp
  simp only [List.map_take] at hst
  simp [Builtin.copy_, run_underlying hu, Builtin.lenOf, Builtin.firstCells, hz, hmin]
  rw [hst]
  rfl
section
variable {Q : Exit → Act → World → Prop} {dst : Option Tmp} {ty : TypeId} {pos : String} {aft : Array Edge} {a : Act} {w : World} {K : Act → World → Prop} {base : Nat} {l : List UInt8}
theorem W_copyL (x y : Operand) (g n c : Nat) (s : ByteArray) (hown : OwnB w base (.slice (some ⟨g, 0, none⟩) n c) l)
    (hp : a.eval x = .slice (some ⟨g, 0, none⟩) n c ∧ a.eval y = .string s)
    (h : ∀ w' m, OwnB w' base (.slice (some ⟨g, 0, none⟩) n c) (s.data.toList.take l.length ++ l.drop s.size) → w.grownBy w' (some g) → K (a.put dst (goInt m)) w') :
    Oper.wp Try.prog ⟨dst, .call { callee := .builtin .copy, args := #[x, y], argTypes := #[38, 9] }, ty, pos, aft, none⟩ a w K Q := by
  rcases Nat.lt_or_ge l.length s.size with hlt | hle; rotate_left
  · refine W_copyB x y g n c s hown ⟨hp.1, hp.2, hle⟩ fun w' h1 h2 => h w' _ ?_ h2
    rw [List.take_of_length_le (by simpa using hle)]
    exact h1
  obtain ⟨i, hi, hz, hs, hb⟩ := info_parts info_u8
  obtain ⟨h1, h2⟩ := hp
  rcases hown.2 with ⟨he, h0⟩ | ⟨g', cap, cur, fr, he, hb', hg, hf, hnc, hcm, hcs, htk⟩
  · cases he
  · simp only [Value.slice.injEq, Option.some.injEq, Addr.mk.injEq, and_true] at he
    obtain ⟨rfl, rfl, rfl⟩ := he
    have hsp := fun j (hj : j < c) => row_spare (w := w) hg hf (by omega) j (by omega)
    have hr := run_copy_long (P := Try.prog) w 38 9 ty 5 g 0 l.length c s Try.underlying38 (fun w => by simp [sizeOf, typeInfo, hi, hs]) (by omega)
      (fun j hj => by rw [Nat.zero_add]; exact (hsp j (by omega)).1) (fun j hj => by rw [Nat.zero_add]; exact (hsp j (by omega)).2)
    unfold Oper.wp execOp
    simp only [resolve, invoke, builtin, Sem.run_bind, Sem.run_pure, Result.andThen_ok, List.map_toArray, List.map_cons, List.map_nil, h1, h2, hr]
    have q1 := blk_setCells ((s.data.toList.take l.length).map b8) 0 w cur hg
    have hl : (s.data.toList.take l.length).length = l.length := by simp; omega
    have q2 := putArr_list ((s.data.toList.take l.length).map b8) 0 cur (by rw [List.length_map, hl]; omega)
    have q3 : (putArr cur 0 ((s.data.toList.take l.length).map b8)).size = cur.size := by rw [← Array.length_toList, q2]; simp; omega
    have q4 : (s.data.toList.take l.length ++ l.drop s.size).length = l.length := by rw [List.length_append, hl, List.length_drop]; omega
    refine h _ _ ⟨?_, .inr ⟨g, c, _, fr, ?_, hb', q1, hf, ?_, hcm, by omega, ?_⟩⟩ (grown_setCells _ _)
    · simp
    · rw [q4]
    · rw [q4]; exact hnc
    · rw [q4, q2, List.take_zero, List.nil_append, List.length_map, hl, Nat.zero_add, Nat.mul_one, List.drop_of_length_le (show l.length ≤ s.size by omega), List.append_nil, List.take_append_of_le_length (by rw [List.length_map, hl]; exact Nat.le_refl _), List.take_of_length_le (by rw [List.length_map, hl]; exact Nat.le_refl _)]
end
theorem chunk_of (s : List UInt8) (i : Nat) : chunk s i = (s.drop (64 * i)).take 64 ++ (List.replicate 64 (0 : UInt8)).drop (s.drop (64 * i)).length := by
  unfold chunk
  congr 1
  rw [List.drop_replicate, List.length_take]
  congr 1
  omega
theorem chunk_str (s : List UInt8) (j : Nat) (Z : List UInt8) (hZ : List.replicate 64 (0 : UInt8) = Z) : chunk s j = (({ data := s.toArray } : ByteArray).extract (j * 64) s.length).data.toList.take Z.length ++ Z.drop (({ data := s.toArray } : ByteArray).extract (j * 64) s.length).size := by
  rw [chunk_of, ← hZ]
  have e1 : (({ data := s.toArray } : ByteArray).extract (j * 64) s.length).data.toList = s.drop (64 * j) := by
    simp [List.extract_eq_take_drop, Nat.mul_comm]
    rw [List.take_of_length_le (by rw [List.length_drop]; omega)]
  have e2 : (({ data := s.toArray } : ByteArray).extract (j * 64) s.length).size = (s.drop (64 * j)).length := by rw [← e1]; exact (Array.length_toList).symm
  rw [e1, e2, List.length_replicate]
set_option maxHeartbeats 2000000 in
theorem swrite_c {w : World} {b : Nat} {D : Ds} {F : Nat → Prop} (h : IsDisk w b D F) (hops : D.ops + 300 < 1000000000) (hgh : D.gh + 300 < 1000000000) (slot : Nat) (hs : slot < 2) (s : List UInt8) (hl : s.length < 1000000) :
    Calls Try.prog 72 #[.pointer (some ⟨b, 0, none⟩), .int .i64 (slot : Int), .string ⟨s.toArray⟩] w fun e w' => e = .returned (.int .i64 ((swrite D slot s).1 : Nat)) ∧ ∃ F', IsDisk w' b (swrite D slot s).2 F' ∧ Upd F w w' ∧ ∀ k, F' k → F k ∨ w.heap.size ≤ k := by
  have HD := Hd.mk h
  have hok := h.ok
  have hlo := hok.lo
  have hhi := hok.hi
  have HW := swr_c h (slot : Int)
  have e0 : swr (slot : Int) = 0 := by unfold swr; rw [if_pos ⟨by omega, by omega⟩]
  rw [e0] at HW
  have HR := room_c h
  have hbk : bks D ≤ 252 ∧ 8 + slot * bks D + bks D ≤ D.L.length := by
    unfold bks
    refine ⟨by omega, ?_⟩
    have : slot * ((D.L.length - 8) / 2) ≤ 1 * ((D.L.length - 8) / 2) := Nat.mul_le_mul_right _ (by omega)
    omega
  obtain ⟨r, hr⟩ : ∃ r, bks D = r := ⟨_, rfl⟩
  have HBK := Hd.mk hr
  have HSW : Hd (swrite D slot s = if r * 64 < s.length then (6, D) else if (swl D (8 + slot * r) s (cnt s.length)).1 ≠ 0 then swl D (8 + slot * r) s (cnt s.length) else (swl D (8 + slot * r) s (cnt s.length)).2.sync) := ⟨by rw [← hr]; rfl⟩
  rw [hr] at HR hbk
  obtain ⟨a, ha⟩ : ∃ a, 8 + slot * r = a := ⟨_, rfl⟩
  rw [ha] at HSW hbk
  have HA := Hd.mk ha
  have HOK := Hd.mk (And.intro hlo hhi)
  have HBD := Hd.mk hbk
  have HOP := Hd.mk (And.intro hops hgh)
  clear hr ha hok h e0 hlo hhi hbk hops hgh
  by_cases hfull : r * 64 < s.length
  · rw [HSW.out, if_pos hfull]
    have hf1 : ((r * 64 : Nat) : Int) < (s.length : Int) := by omega
    clear hfull
    go_enter Try.func72, Try.ntmps72
    go_wp2_with fail
    refine HW.mono ?_
    rintro e w1 ⟨rfl, rfl⟩
    clear HW
    go_wp2_with fail
    refine HR.mono ?_
    rintro e w1 ⟨rfl, rfl⟩
    clear HR
    go_wp2_with fail
    go_ret
    exact ⟨rfl, F, HD.out, Upd.refl _ _, fun k hk => .inl hk⟩
  · have hcn : cnt s.length ≤ r := by unfold cnt; omega
    rw [HSW.out, if_neg hfull]
    have hf1 : ¬ ((r * 64 : Nat) : Int) < (s.length : Int) := by omega
    have HC := cnt_c s.length (by omega) w
    obtain ⟨C, hC⟩ : ∃ C, cnt s.length = C := ⟨_, rfl⟩
    rw [hC] at HC hcn ⊢
    have HCC := Hd.mk hC
    have HCN := Hd.mk hcn
    obtain ⟨R, hR⟩ : ∃ R, (if (swl D a s C).1 ≠ 0 then swl D a s C else (swl D a s C).2.sync) = R := ⟨_, rfl⟩
    rw [hR]
    have HRR := Hd.mk hR
    clear hfull hC hcn HSW hR
    go_enter Try.func72, Try.ntmps72
    go_wp2_with fail
    refine HW.mono ?_
    rintro e w1 ⟨rfl, rfl⟩
    clear HW
    go_wp2_with fail
    refine HR.mono ?_
    rintro e w1 ⟨rfl, rfl⟩
    clear HR
    go_wp2_with fail
    refine HC.mono ?_
    rintro e w1 ⟨rfl, rfl⟩
    clear HC
    go_wp2_with fail
    go_loopw [25] (fun i wr => ∃ j : Nat, ∃ F1 : Nat → Prop, i = .int .i64 j ∧ j ≤ C ∧ Hd ((swl D a s j).1 = 0) ∧ Hd (IsDisk wr b (swl D a s j).2 F1) ∧ Hd (Upd F w wr) ∧ Hd (∀ k, F1 k → F k ∨ w.heap.size ≤ k)) (fun i _ => C - (intOf i).toNat)
    case atStart => exact ⟨0, F, rfl, Nat.zero_le _, ⟨rfl⟩, HD, ⟨Upd.refl _ _⟩, ⟨fun k hk => .inl hk⟩⟩
    case round =>
      obtain ⟨j, F1, rfl, hj, HZ, H1, HU, HF⟩ := hrel
      by_cases hlt : j < C
      · have hlo : (j : Int) * 64 ≤ (s.length : Int) := by have := HCC.out; unfold cnt at this; omega
        obtain ⟨Z, hZ⟩ : ∃ Z, List.replicate 64 (0 : UInt8) = Z := ⟨_, rfl⟩
        have HZZ := Hd.mk hZ
        clear hZ
        go_upto_region 11 with (first | ((with_reducible refine wpList_plain rfl fun K hK => W_copyL (.tmp 29) (.tmp 33) wr.heap.size 64 64 (({ data := s.toArray } : ByteArray).extract (j * 64) s.length) G2.out ?hp fun w3 m h1 h2 => hK _ _ ?_); (case hp => exact ⟨rfl, rfl⟩); have G4 := Hd.mk h1; have G5 := Hd.mk h2; clear h1 h2) | (at_make; refine wpList_plain rfl fun K hK => ?_; refine W_makeB 64 _ _ ⟨⟨_, rfl⟩, ⟨_, rfl⟩, by decide⟩ ?_; intro w2 h1 h2; refine hK _ _ ?_; rw [HZZ.out] at h1; have G2 := Hd.mk h1; have G3 := Hd.mk h2; clear h1 h2 hK))
        rw [← chunk_str s j Z HZZ.out] at G4
        obtain ⟨D1, hD1⟩ : ∃ D1, (swl D a s j).2 = D1 := ⟨_, rfl⟩
        have hlen := swl_len D a s j
        have hnx := swl_next D a s j HZ.out
        rw [hD1] at H1 hlen hnx
        obtain ⟨X, hX⟩ : ∃ X, chunk s j = X := ⟨_, rfl⟩
        rw [hX] at G4 hnx
        obtain ⟨N, hN⟩ : ∃ N, wr.heap.size = N := ⟨_, rfl⟩
        have Y3 : Hd (Below N wr w3) := ⟨by
          have h1 : Below wr.heap.size wr w2 := (Below.refl _ _).grown G3.out (Nat.le_refl _) (by simp)
          have h2 : Below wr.heap.size wr w3 := h1.grown G5.out h1.size (by intro k hk; cases hk; exact Nat.le_refl _)
          rw [← hN]; exact h2⟩
        rw [hN] at G4 ⊢
        have H3 : Hd (IsDisk w3.drew b D1 F1) := ⟨H1.out.ext (by rw [hN]; exact Y3.out.drew)⟩
        have HNF : Hd (∀ k, F1 k → k < N) := ⟨by rw [← hN]; exact H1.out.lt⟩
        have hbkD : 8 + slot * bks D1 = a := by
          have h1 : bks D1 = r := by rw [← HBK.out]; unfold bks; rw [hlen.1]
          rw [h1]; exact HA.out
        have hfi := sfirst_c H3.out slot hs
        rw [hbkD] at hfi
        have hwr := dwrite_c H3.out (by have := HOP.out.1; have := HBD.out.1; have := HCN.out; omega) (by have := HOP.out.2; have := HBD.out.1; have := HCN.out; omega) ((a : Int) + (j : Int)) X
        rw [Int.natCast_add] at hnx
        obtain ⟨p, hp⟩ : ∃ p, D1.write ((a : Int) + (j : Int)) X = p := ⟨_, rfl⟩
        rw [hp] at hwr hnx
        obtain ⟨c, hc⟩ : ∃ c, p.1 = c := ⟨_, rfl⟩
        rw [hc] at hwr
        have HP := Hd.mk hp
        have HCE := Hd.mk hc
        have HNX := Hd.mk hnx
        have hs1 : (a : Int) + (j : Int) ≤ 1000 := by have h1 := HBD.out.1; have h2 := HBD.out.2; have h3 := HOK.out.2; omega
        have G6 : Hd (OwnB w3.drew N (.slice (some ⟨N, 0, none⟩) 64 64) X) := ⟨G4.out.keep fun k _ => rfl⟩
        have hc0 := fun x : Later (fun u v => Below u.heap.size u v) w3.drew => run_strof 38 (G6.out.below ((show Below w3.drew.heap.size w3.drew x.w from x.h).mono (Nat.le_refl _))) Try.underlying38 9 Try.underlying9
        have HOWN : Hd (∀ w4, Upd F1 w3.drew w4 → OwnB w4 N (.slice (some ⟨N, 0, none⟩) 64 64) X) := ⟨fun w4 hu => G6.out.keep fun k hk => by
          have hl := (G6.out.lt k hk)
          exact hu.block k hl.2 (fun hf => by have := HNF.out k hf; omega)⟩
        clear G2 G3 G4 G5 hD1 hlen hX hp hc hbkD hnx
        generalize goInt m = vm
        simp only [Act.put, List.setIfInBounds_toArray, List.set_cons_succ, List.set_cons_zero]
        refine region_ext [0, 0, 0, 2, 0, 2, 0, 0, 1, 1] (by kernel_rfl) (by kernel_rfl) (fun _ _ _ _ _ h => h) ?_
        simp (decide := true) only [pick, ↓reduceIte]
        repeat go_big_quiet_step (fail)
        refine wpQuiet_nil ?_
        refine wpF_plain rfl ?_
        go_step
        refine hfi.mono ?_
        rintro e w' ⟨rfl, rfl⟩
        refine ⟨Below.refl _ _, ?_⟩
        refine wpF_plain rfl ?_
        go_step
        refine ⟨Below.refl _ _, wpF_nil ?_⟩
        go_wp2_with fail
        refine hwr.mono ?_
        rintro e w4 ⟨rfl, F2, hi, hu, hf⟩
        have I4 := Hd.mk hi
        have U4 : Hd (Upd F w w4) := ⟨by
          have h1 : Upd F w w3 := HU.out.ext (by rw [hN]; exact Y3.out)
          have h2 : Upd F1 w3 w4 := ⟨hu.os, hu.tape, hu.output, hu.size, hu.block⟩
          refine ⟨by rw [h2.os, h1.os], by rw [h2.tape, h1.tape], by rw [h2.output, h1.output], Nat.le_trans h1.size h2.size, fun k hk hn => ?_⟩
          rw [h2.block k (Nat.lt_of_lt_of_le hk h1.size) (fun hc => (HF.out k hc).elim hn (fun h => by omega)), h1.block k hk hn]⟩
        have F4 : Hd (∀ k, F2 k → F k ∨ w.heap.size ≤ k) := ⟨fun k hk => by
          rcases hf k hk with h | h
          · exact HF.out k h
          · have h1 := HU.out.size
            have h2 := Y3.out.size
            exact .inr (Nat.le_trans (Nat.le_trans h1 h2) h)⟩
        clear hi hu hf hwr hc0 hfi HOWN G6
        by_cases hc : c = 0
        · subst hc
          go_wp2_with fail
          go_roundw
          case rel => exact ⟨j + 1, F2, by go_num, hlt, ⟨by rw [HNX.out, HCE.out]⟩, ⟨by rw [HNX.out]; exact I4.out⟩, U4, F4⟩
          case measure => simp [intOf]; omega
        · have hc1 : ((c : Int) != 0) = true := by rw [bne_iff_ne]; omega
          go_wp2_with fail
          go_ret
          have hst : swl D a s C = p := by
            rw [swl_stop D a s (j + 1) (by rw [HNX.out, HCE.out]; exact hc) C hlt, HNX.out]
          rw [← HRR.out, hst, if_pos (by rw [HCE.out]; exact hc)]
          exact ⟨by rw [HCE.out]; rfl, F2, I4.out, U4.out, F4.out⟩
      · have hjC : j = C := by omega
        subst hjC
        have hsy := dsync_c H1.out (by have h1 := (swl_len D a s j).2.1; have h2 := HOP.out.1; have h3 := HBD.out.1; have h4 := HCN.out; omega)
        go_wp2_with fail
        refine hsy.mono ?_
        rintro e w4 ⟨rfl, hi, hu⟩
        have I4 := Hd.mk hi
        have U4 : Hd (Upd F w w4) := ⟨by
          have h1 := HU.out
          refine ⟨by rw [hu.os, h1.os], by rw [hu.tape, h1.tape], by rw [hu.output, h1.output], Nat.le_trans h1.size hu.size, fun k hk hn => ?_⟩
          rw [hu.block k (Nat.lt_of_lt_of_le hk h1.size) (fun hc => (HF.out k hc).elim hn (fun h => by omega)), h1.block k hk hn]⟩
        clear hi hu hsy
        go_wp2_with fail
        go_ret
        rw [← HRR.out, if_neg (by rw [HZ.out]; simp)]
        exact ⟨rfl, F1, I4.out, U4.out, HF.out⟩
end Go.Proofs.Ytkdakmddlkgjkaa
