import Derived.Test.YtkdakmddlkgjkaaRefD
import Derived.Test.YtkdakmddlkgjkaaRq
open Go.RowKit Go.Lib
namespace Go.Proofs.Ytkdakmddlkgjkaa
set_option maxRecDepth 100000
open Sha
/-! The reference's Build. -/
set_option maxHeartbeats 1000000 in
theorem bbuild_no (e : En) (h : e.right = false) (w : World) : Calls Try.prog 16 #[ev e] w fun r w' => r = .returned (.tuple #[.string ⟨#[]⟩, .int .i64 1]) ∧ Below w.heap.size w w' := by
  obtain ⟨k, n, sl, sz, sum⟩ := e
  show Calls Try.prog _ #[.agg #[.int .i64 k, .int .i64 n, .int .i64 sl, .int .i64 sz, .string ⟨sum.toArray⟩]] w _
  have hc : k < 1 ∨ (¬ k < 1 ∧ 3 < k) ∨ (¬ k < 1 ∧ ¬ 3 < k ∧ n < 1) ∨ (¬ k < 1 ∧ ¬ 3 < k ∧ ¬ n < 1 ∧ 4294967295 < n) ∨ (¬ k < 1 ∧ ¬ 3 < k ∧ ¬ n < 1 ∧ ¬ 4294967295 < n ∧ sl < 0) ∨ (¬ k < 1 ∧ ¬ 3 < k ∧ ¬ n < 1 ∧ ¬ 4294967295 < n ∧ ¬ sl < 0 ∧ 2 < sl) ∨ (¬ k < 1 ∧ ¬ 3 < k ∧ ¬ n < 1 ∧ ¬ 4294967295 < n ∧ ¬ sl < 0 ∧ ¬ 2 < sl ∧ sz < 0) ∨ (¬ k < 1 ∧ ¬ 3 < k ∧ ¬ n < 1 ∧ ¬ 4294967295 < n ∧ ¬ sl < 0 ∧ ¬ 2 < sl ∧ ¬ sz < 0 ∧ 4294967295 < sz) ∨ (¬ k < 1 ∧ ¬ 3 < k ∧ ¬ n < 1 ∧ ¬ 4294967295 < n ∧ ¬ sl < 0 ∧ ¬ 2 < sl ∧ ¬ sz < 0 ∧ ¬ 4294967295 < sz ∧ ((sum.length : Int) != 32) = true) := by
    simp only [En.right, decide_eq_false_iff_not] at h
    rw [bne_iff_ne]
    omega
  clear h
  have hb0 : Hd (Below w.heap.size w (w.alloc (.cells #[.int .i64 k, .int .i64 n, .int .i64 sl, .int .i64 sz, .string ⟨sum.toArray⟩] 23 (0, 0)))) := ⟨(Below.refl _ _).alloc (Nat.le_refl _) _⟩
  rcases hc with h1 | ⟨h1, h2⟩ | ⟨h1, h2, h3⟩ | ⟨h1, h2, h3, h4⟩ | ⟨h1, h2, h3, h4, h5⟩ | ⟨h1, h2, h3, h4, h5, h6⟩ | ⟨h1, h2, h3, h4, h5, h6, h7⟩ | ⟨h1, h2, h3, h4, h5, h6, h7, h8⟩ | ⟨h1, h2, h3, h4, h5, h6, h7, h8, h9⟩
  all_goals
    go_enter Try.func16, Try.ntmps16
    go_wp2_with fail
    go_ret2
    exact ⟨rfl, hb0.out⟩
set_option maxHeartbeats 1000000 in
theorem bbuild_yes (e : En) (h : e.right = true) (w : World) : Calls Try.prog 16 #[ev e] w fun r w' => r = .returned (.tuple #[.string ⟨e.blk.toArray⟩, .int .i64 0]) ∧ Below w.heap.size w w' := by
  obtain ⟨X, hX⟩ : ∃ X, e.blk = X := ⟨_, rfl⟩
  rw [hX]
  have HX := Hd.mk hX
  have HH := Hd.mk h
  obtain ⟨k, n, sl, sz, sum⟩ := e
  show Calls Try.prog _ #[.agg #[.int .i64 k, .int .i64 n, .int .i64 sl, .int .i64 sz, .string ⟨sum.toArray⟩]] w _
  have hR := h
  simp only [En.right, decide_eq_true_eq] at hR
  obtain ⟨q1, q2, q3, q4, q5, q6, q7, q8, q9⟩ := hR
  obtain ⟨A, hA⟩ : ∃ A, le k 1 = A := ⟨_, rfl⟩
  obtain ⟨B, hB⟩ : ∃ B, le sl 1 = B := ⟨_, rfl⟩
  obtain ⟨C, hC⟩ : ∃ C, le n 4 = C := ⟨_, rfl⟩
  obtain ⟨D, hD⟩ : ∃ D, le sz 4 = D := ⟨_, rfl⟩
  have p1 := bput1 k A hA (by omega)
  have p2 := bput1 sl B hB (by omega)
  have p3 := bput4 n C hC (by omega)
  have p4 := bput4 sz D hD (by omega)
  obtain ⟨H, hH⟩ : ∃ H, En.head ⟨k, n, sl, sz, sum⟩ = H := ⟨_, rfl⟩
  have hs : ({ data := #[67, 74] } : ByteArray) ++ { data := A.toArray } ++ { data := B.toArray } ++ { data := C.toArray } ++ { data := D.toArray } ++ { data := sum.toArray } = ⟨H.toArray⟩ := by
    rw [← hH, ← hA, ← hB, ← hC, ← hD]
    apply ByteArray.ext
    simp [En.head]
  have lA : A.length = 1 := by rw [← hA, le_len]
  have lB : B.length = 1 := by rw [← hB, le_len]
  have lC : C.length = 4 := by rw [← hC, le_len]
  have lD : D.length = 4 := by rw [← hD, le_len]
  have hHl : H.length = 44 := by rw [← hH]; exact head_len _ q9
  have h1 : ¬ k < 1 := by omega
  have h2 : ¬ 3 < k := by omega
  have h3 : ¬ n < 1 := by omega
  have h4 : ¬ 4294967295 < n := by omega
  have h5 : ¬ sl < 0 := by omega
  have h6 : ¬ 2 < sl := by omega
  have h7 : ¬ sz < 0 := by omega
  have h8 : ¬ 4294967295 < sz := by omega
  have h9 : ((sum.length : Int) != 32) = false := by rw [bne_eq_false_iff_eq]; omega
  have HHD := Hd.mk hH
  have HHL := Hd.mk hHl
  have HS := Hd.mk hs
  have HL := Hd.mk (show A.length = 1 ∧ B.length = 1 ∧ C.length = 4 ∧ D.length = 4 ∧ sum.length = 32 from ⟨lA, lB, lC, lD, q9⟩)
  clear hX h hA hB hC hD hH hHl hs lA lB lC lD q1 q2 q3 q4 q5 q6 q7 q8 q9
  have hb0 : Hd (Below w.heap.size w (w.alloc (.cells #[.int .i64 k, .int .i64 n, .int .i64 sl, .int .i64 sz, .string ⟨sum.toArray⟩] 23 (0, 0)))) := ⟨(Below.refl _ _).alloc (Nat.le_refl _) _⟩
  obtain ⟨N, hN⟩ : ∃ N, w.heap.size = N := ⟨_, rfl⟩
  have HN := Hd.mk hN
  have BK0 : Hd ((w.alloc (.cells #[.int .i64 k, .int .i64 n, .int .i64 sl, .int .i64 sz, .string ⟨sum.toArray⟩] 23 (0, 0))).heap[N]? = some (.cells #[.int .i64 k, .int .i64 n, .int .i64 sl, .int .i64 sz, .string ⟨sum.toArray⟩] 23 (0, 0))) := ⟨blk_new _ _ _ _ _ hN⟩
  clear hN
  go_enter Try.func16, Try.ntmps16
  go_wp2_with fail
  refine (p1 _).mono ?_
  rintro e w1 ⟨rfl, hb⟩
  have HB1 : Hd (Below w.heap.size w w1) := ⟨hb0.out.trans (hb.mono hb0.out.size)⟩
  have BK1 : Hd (w1.heap[N]? = some (.cells #[.int .i64 k, .int .i64 n, .int .i64 sl, .int .i64 sz, .string ⟨sum.toArray⟩] 23 (0, 0))) := ⟨by rw [hb.block N (blk_lt BK0.out)]; exact BK0.out⟩
  have c0 := blk_cell BK1.out 0
  have c1 := blk_cell BK1.out 1
  have c2 := blk_cell BK1.out 2
  have c3 := blk_cell BK1.out 3
  have c4 := blk_cell BK1.out 4
  simp only [List.getElem?_toArray, List.getElem?_cons_zero, List.getElem?_cons_succ] at c0 c1 c2 c3 c4
  rw [HN.out]
  clear hb hb0 BK0
  go_wp2_with fail
  refine (p2 _).mono ?_
  rintro e w2 ⟨rfl, hb⟩
  have HB2 : Hd (Below w.heap.size w w2) := ⟨HB1.out.trans (hb.mono HB1.out.size)⟩
  have BK2 : Hd (w2.heap[N]? = some (.cells #[.int .i64 k, .int .i64 n, .int .i64 sl, .int .i64 sz, .string ⟨sum.toArray⟩] 23 (0, 0))) := ⟨by rw [hb.block N (blk_lt BK1.out)]; exact BK1.out⟩
  clear c0 c1 c2 c3 c4
  have c0 := blk_cell BK2.out 0
  have c1 := blk_cell BK2.out 1
  have c2 := blk_cell BK2.out 2
  have c3 := blk_cell BK2.out 3
  have c4 := blk_cell BK2.out 4
  simp only [List.getElem?_toArray, List.getElem?_cons_zero, List.getElem?_cons_succ] at c0 c1 c2 c3 c4
  clear hb HB1 BK1
  go_wp2_with fail
  refine (p3 _).mono ?_
  rintro e w3 ⟨rfl, hb⟩
  have HB3 : Hd (Below w.heap.size w w3) := ⟨HB2.out.trans (hb.mono HB2.out.size)⟩
  have BK3 : Hd (w3.heap[N]? = some (.cells #[.int .i64 k, .int .i64 n, .int .i64 sl, .int .i64 sz, .string ⟨sum.toArray⟩] 23 (0, 0))) := ⟨by rw [hb.block N (blk_lt BK2.out)]; exact BK2.out⟩
  clear c0 c1 c2 c3 c4
  have c0 := blk_cell BK3.out 0
  have c1 := blk_cell BK3.out 1
  have c2 := blk_cell BK3.out 2
  have c3 := blk_cell BK3.out 3
  have c4 := blk_cell BK3.out 4
  simp only [List.getElem?_toArray, List.getElem?_cons_zero, List.getElem?_cons_succ] at c0 c1 c2 c3 c4
  clear hb HB2 BK2
  go_wp2_with fail
  refine (p4 _).mono ?_
  rintro e w4 ⟨rfl, hb⟩
  have HB4 : Hd (Below w.heap.size w w4) := ⟨HB3.out.trans (hb.mono HB3.out.size)⟩
  have BK4 : Hd (w4.heap[N]? = some (.cells #[.int .i64 k, .int .i64 n, .int .i64 sl, .int .i64 sz, .string ⟨sum.toArray⟩] 23 (0, 0))) := ⟨by rw [hb.block N (blk_lt BK3.out)]; exact BK3.out⟩
  clear c0 c1 c2 c3 c4
  have c4 := blk_cell BK4.out 4
  simp only [List.getElem?_toArray, List.getElem?_cons_zero, List.getElem?_cons_succ] at c4
  clear hb HB3 BK3 p1 p2 p3 p4 h1 h2 h3 h4 h5 h6 h7 h8 h9
  have v1 : 2 + A.length < 9223372036854775807 := by have := HL.out; omega
  have v2 : 2 + A.length + B.length < 9223372036854775807 := by have := HL.out; omega
  have v3 : 2 + A.length + B.length + C.length < 9223372036854775807 := by have := HL.out; omega
  have v4 : 2 + A.length + B.length + C.length + D.length < 9223372036854775807 := by have := HL.out; omega
  have v5 : 2 + A.length + B.length + C.length + D.length + sum.length < 9223372036854775807 := by have := HL.out; omega
  go_wp2_with fail
  rw [HS.out]
  refine (rsha_c ⟨H.toArray⟩ w4 (by show H.length ≤ _; rw [HHL.out]; decide)).mono ?_
  rintro e w5 ⟨rfl, hb⟩
  have HB5 : Hd (Below w.heap.size w w5) := ⟨HB4.out.trans (hb.mono HB4.out.size)⟩
  clear hb c4 v1 v2 v3 v4 v5 BK4 HB4
  rw [show (ByteArray.mk H.toArray).data.toList = H from rfl]
  obtain ⟨Y, hY⟩ : ∃ Y, sha H = Y := ⟨_, rfl⟩
  have hYl : Y.length = 32 := by rw [← hY]; exact sha_len _
  rw [hY]
  have HY := Hd.mk hY
  have hy8 : (8 : Int) ≤ (Y.length : Int) := by rw [hYl]; decide
  clear hY
  obtain ⟨G, hG⟩ : ∃ G, H ++ Y.take 8 = G := ⟨_, rfl⟩
  have hGl : G.length = 52 := by rw [← hG, List.length_append, List.length_take, HHL.out, hYl]; rfl
  have hst : ({ data := H.toArray } : ByteArray) ++ ({ data := Y.toArray } : ByteArray).extract 0 8 = ⟨G.toArray⟩ := by
    rw [← hG]
    apply ByteArray.ext
    simp
  obtain ⟨Z, hZ⟩ : ∃ Z, List.replicate 64 (0 : UInt8) = Z := ⟨_, rfl⟩
  have hZl : Z.length = 64 := by rw [← hZ]; rfl
  have hcat : ({ data := G.toArray } : ByteArray) ++ ({ data := Z.toArray } : ByteArray).extract 52 64 = ⟨X.toArray⟩ := by
    rw [← hZ, ← HX.out, ← hG, ← HY.out, ← HHD.out]
    apply ByteArray.ext
    simp [En.blk]
  have hc5 : H.length + 8 < 9223372036854775807 := by rw [HHL.out]; decide
  have hc6 : G.length + 12 < 9223372036854775807 := by rw [hGl]; decide
  have hzero := bzero_c w5
  rw [hZ] at hzero
  have HG := Hd.mk hG
  have HGL := Hd.mk hGl
  have hgz : (G.length : Int) ≤ (Z.length : Int) := by rw [hGl, hZl]; decide
  clear hG hYl hZ
  go_wp2_with fail
  refine hzero.mono ?_
  rintro e w6 ⟨rfl, hb⟩
  have HB6 : Hd (Below w.heap.size w w6) := ⟨HB5.out.trans (hb.mono HB5.out.size)⟩
  clear hb hzero
  go_wp2_with fail
  go_ret2
  refine ⟨?_, HB6.out⟩
  first | rfl | (simp only [hcat, HGL.out, hZl]; done) | (rw [← hcat]; simp [HGL.out, hZl]; done)
theorem bbuild_c (e : En) (w : World) : Calls Try.prog 16 #[ev e] w fun r w' => r = .returned (.tuple #[.string ⟨((build e).getD []).toArray⟩, .int .i64 (if e.right then 0 else 1)]) ∧ Below w.heap.size w w' := by
  unfold build
  by_cases h : e.right = true
  · rw [if_pos h, if_pos h]; exact bbuild_yes e h w
  · rw [if_neg h, if_neg h]; exact bbuild_no e (by simpa using h) w
end Go.Proofs.Ytkdakmddlkgjkaa
