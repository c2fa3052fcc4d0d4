import Derived.Outline
import Derived.Test.YtkdakmddlkgjkaaRg
import Derived.Deep.RegionHeld3
open Go.RowKit Go.Lib
namespace Go.Proofs.Ytkdakmddlkgjkaa
set_option maxRecDepth 100000
open Sha
def ev (e : En) : Value := .agg #[.int .i64 e.k, .int .i64 e.n, .int .i64 e.sl, .int .i64 e.sz, .string ⟨e.sum.toArray⟩]
theorem btw_t (n lo hi : Int) (w : World) (h : lo ≤ n ∧ n ≤ hi) : Calls Try.prog 76 #[.int .i64 n, .int .i64 lo, .int .i64 hi] w fun e w' => e = .returned (.bool true) ∧ w = w' := by
  obtain ⟨h1, h2⟩ := h
  go_enter Try.func76, Try.ntmps76
  go_wp2
  go_ret
  exact ⟨rfl, rfl⟩
theorem btw_f (n lo hi : Int) (w : World) (h : ¬ (lo ≤ n ∧ n ≤ hi)) : Calls Try.prog 76 #[.int .i64 n, .int .i64 lo, .int .i64 hi] w fun e w' => e = .returned (.bool false) ∧ w = w' := by
  by_cases h1 : lo ≤ n
  · have h2 : ¬ n ≤ hi := fun hc => h ⟨h1, hc⟩
    clear h
    go_enter Try.func76, Try.ntmps76
    go_wp2
    go_ret
    exact ⟨rfl, rfl⟩
  · clear h
    go_enter Try.func76, Try.ntmps76
    go_wp2
    go_ret
    exact ⟨rfl, rfl⟩
set_option maxHeartbeats 1000000 in
theorem eright_c (e : En) (w : World) : Calls Try.prog 51 #[ev e] w fun r w' => r = .returned (.bool e.right) ∧ Below w.heap.size w w' := by
  obtain ⟨k, n, sl, sz, sum⟩ := e
  show Calls Try.prog _ #[.agg #[.int .i64 k, .int .i64 n, .int .i64 sl, .int .i64 sz, .string ⟨sum.toArray⟩]] w _
  have hbox : ∀ o, Below w.heap.size w (w.alloc o) := fun o => (Below.refl _ _).alloc (Nat.le_refl _) o
  have HB := Hd.mk hbox
  clear hbox
  obtain ⟨r, hr⟩ : ∃ r, (En.mk k n sl sz sum).right = r := ⟨_, rfl⟩
  rw [hr]
  by_cases h1 : 1 ≤ k ∧ k ≤ 3
  case neg =>
    have hr2 : r = false := by rw [← hr]; simp only [En.right, decide_eq_false_iff_not]; omega
    subst hr2
    clear hr
    go_enter Try.func51, Try.ntmps51
    go_wp2_with (go_at_call 76; refine (btw_f _ _ _ _ (by omega)).mono ?_; rintro e w' ⟨rfl, rfl⟩)
    go_ret
    exact ⟨rfl, HB.out _⟩
  by_cases h2 : 1 ≤ n ∧ n ≤ 4294967295
  case neg =>
    have hr2 : r = false := by rw [← hr]; simp only [En.right, decide_eq_false_iff_not]; omega
    subst hr2
    clear hr
    go_enter Try.func51, Try.ntmps51
    go_wp2_with (go_at_call 76; first | (refine (btw_f _ _ _ _ (by omega)).mono ?_; rintro e w' ⟨rfl, rfl⟩) | (refine (btw_t _ _ _ _ (by omega)).mono ?_; rintro e w' ⟨rfl, rfl⟩))
    go_ret
    exact ⟨rfl, HB.out _⟩
  by_cases h3 : 0 ≤ sl ∧ sl ≤ 2
  case neg =>
    have hr2 : r = false := by rw [← hr]; simp only [En.right, decide_eq_false_iff_not]; omega
    subst hr2
    clear hr
    go_enter Try.func51, Try.ntmps51
    go_wp2_with (go_at_call 76; first | (refine (btw_f _ _ _ _ (by omega)).mono ?_; rintro e w' ⟨rfl, rfl⟩) | (refine (btw_t _ _ _ _ (by omega)).mono ?_; rintro e w' ⟨rfl, rfl⟩))
    go_ret
    exact ⟨rfl, HB.out _⟩
  by_cases h4 : 0 ≤ sz ∧ sz ≤ 4294967295
  case neg =>
    have hr2 : r = false := by rw [← hr]; simp only [En.right, decide_eq_false_iff_not]; omega
    subst hr2
    clear hr
    go_enter Try.func51, Try.ntmps51
    go_wp2_with (go_at_call 76; first | (refine (btw_f _ _ _ _ (by omega)).mono ?_; rintro e w' ⟨rfl, rfl⟩) | (refine (btw_t _ _ _ _ (by omega)).mono ?_; rintro e w' ⟨rfl, rfl⟩))
    go_ret
    exact ⟨rfl, HB.out _⟩
  obtain ⟨q, hq⟩ : ∃ q, ((sum.length : Int) == 32) = q := ⟨_, rfl⟩
  have hr2 : r = q := by
    rw [← hr, ← hq, Bool.eq_iff_iff, beq_iff_eq]
    simp only [En.right, decide_eq_true_eq]
    constructor
    · intro h; omega
    · intro h; exact ⟨h1.1, h1.2, h2.1, h2.2, h3.1, h3.2, h4.1, h4.2, by omega⟩
  subst hr2
  clear hr
  go_enter Try.func51, Try.ntmps51
  go_wp2_with (go_at_call 76; refine (btw_t _ _ _ _ (by omega)).mono ?_; rintro e w' ⟨rfl, rfl⟩)
  go_ret
  exact ⟨rfl, HB.out _⟩
set_option maxHeartbeats 1000000 in
theorem ebuild_no (e : En) (h : e.right = false) (w : World) : Calls Try.prog 14 #[ev e] w fun r w' => r = .returned (.tuple #[.string ⟨#[]⟩, .int .i64 1]) ∧ Below w.heap.size w w' := by
  have hr := eright_c e
  rw [h] at hr
  obtain ⟨k, n, sl, sz, sum⟩ := e
  change ∀ w, Calls Try.prog _ #[.agg #[.int .i64 k, .int .i64 n, .int .i64 sl, .int .i64 sz, .string ⟨sum.toArray⟩]] w _ at hr
  show Calls Try.prog _ #[.agg #[.int .i64 k, .int .i64 n, .int .i64 sl, .int .i64 sz, .string ⟨sum.toArray⟩]] w _
  clear h
  have hb0 : Hd (Below w.heap.size w (w.alloc (.cells #[.int .i64 k, .int .i64 n, .int .i64 sl, .int .i64 sz, .string ⟨sum.toArray⟩] 28 (0, 0)))) := ⟨(Below.refl _ _).alloc (Nat.le_refl _) _⟩
  go_enter Try.func14, Try.ntmps14
  go_wp2_with fail
  refine (hr _).mono ?_
  rintro e w1 ⟨rfl, hb⟩
  have HB : Hd (Below w.heap.size w w1) := ⟨hb0.out.trans (hb.mono hb0.out.size)⟩
  clear hb hr hb0
  go_wp2_with fail
  go_ret2
  exact ⟨rfl, HB.out⟩
set_option maxHeartbeats 1000000 in
theorem ebuild_yes (e : En) (h : e.right = true) (w : World) : Calls Try.prog 14 #[ev e] w fun r w' => r = .returned (.tuple #[.string ⟨e.blk.toArray⟩, .int .i64 0]) ∧ Below w.heap.size w w' := by
  have hr := eright_c e
  rw [h] at hr
  obtain ⟨X, hX⟩ : ∃ X, e.blk = X := ⟨_, rfl⟩
  rw [hX]
  have HX := Hd.mk hX
  have HH := Hd.mk h
  obtain ⟨k, n, sl, sz, sum⟩ := e
  change ∀ w, Calls Try.prog _ #[.agg #[.int .i64 k, .int .i64 n, .int .i64 sl, .int .i64 sz, .string ⟨sum.toArray⟩]] w _ at hr
  show Calls Try.prog _ #[.agg #[.int .i64 k, .int .i64 n, .int .i64 sl, .int .i64 sz, .string ⟨sum.toArray⟩]] w _
  clear h hX
  have hb0 : Hd (Below w.heap.size w (w.alloc (.cells #[.int .i64 k, .int .i64 n, .int .i64 sl, .int .i64 sz, .string ⟨sum.toArray⟩] 28 (0, 0)))) := ⟨(Below.refl _ _).alloc (Nat.le_refl _) _⟩
  obtain ⟨N, hN⟩ : ∃ N, w.heap.size = N := ⟨_, rfl⟩
  have HN := Hd.mk hN
  clear hN
  go_enter Try.func14, Try.ntmps14
  go_wp2_with fail
  refine (hr _).mono ?_
  rintro e w1 ⟨rfl, hb⟩
  have HB : Hd (Below w.heap.size w w1) := ⟨hb0.out.trans (hb.mono hb0.out.size)⟩
  have hblk : w1.heap[N]? = some (.cells #[.int .i64 k, .int .i64 n, .int .i64 sl, .int .i64 sz, .string ⟨sum.toArray⟩] 28 (0, 0)) := by
    rw [hb.block N (by rw [sz_alloc, HN.out]; omega)]
    exact blk_new _ _ _ _ _ HN.out
  have hNlt := blk_lt hblk
  have c0 := blk_cell hblk 0
  have c1 := blk_cell hblk 1
  have c2 := blk_cell hblk 2
  have c3 := blk_cell hblk 3
  have c4 := blk_cell hblk 4
  simp only [List.getElem?_toArray, List.getElem?_cons_zero, List.getElem?_cons_succ] at c0 c1 c2 c3 c4
  rw [HN.out]
  clear hb hr hb0
  go_wp2_with fail
  have hR := HH.out
  simp only [En.right, decide_eq_true_eq] at hR
  have HR := Hd.mk hR
  clear hR
  obtain ⟨T, hT⟩ : ∃ T, le k 1 ++ le sl 1 ++ le n 4 ++ le sz 4 = T := ⟨_, rfl⟩
  have hTl : T.length = 10 := by rw [← hT]; simp [le_len]
  have hput : ∀ (g : Nat) (w : World), w.heap[g]? = some (.cells #[.int .i64 1, .int .i64 k, .int .i64 1, .int .i64 sl, .int .i64 4, .int .i64 n, .int .i64 4, .int .i64 sz] 3 (0, 0)) →
      Calls Try.prog 52 #[.slice (some ⟨g, 0, none⟩) 8 8] w fun e w' => e = .returned (.string ⟨T.toArray⟩) ∧ Below w.heap.size w w' := by
    intro g w hg
    have h2 := rput_c [(1, k), (1, sl), (4, n), (4, sz)] (by
      have hR := HR.out
      intro p hp
      simp only [List.mem_cons, List.not_mem_nil, or_false] at hp
      rcases hp with rfl | rfl | rfl | rfl
      · exact ⟨.inl rfl, by show _ < 8; omega, by show (0 : Int) ≤ k; omega, by show k < 256; omega⟩
      · exact ⟨.inl rfl, by show _ < 8; omega, by show (0 : Int) ≤ sl; omega, by show sl < 256; omega⟩
      · exact ⟨.inr (.inr (.inl rfl)), by show _ < 8; omega, by show (0 : Int) ≤ n; omega, by show n < 4294967296; omega⟩
      · exact ⟨.inr (.inr (.inl rfl)), by show _ < 8; omega, by show (0 : Int) ≤ sz; omega, by show sz < 4294967296; omega⟩) (by show 4 < 1000; omega) g w hg
    have e : puts [(1, k), (1, sl), (4, n), (4, sz)] = T := by rw [← hT]; simp [puts]
    rw [e] at h2
    exact h2
  have hov1 : [67, 74].length + T.length < 9223372036854775807 := by rw [hTl]; decide
  have hsl : sum.length = 32 := HR.out.2.2.2.2.2.2.2.2
  have hov2 : ([67, 74] ++ T).length + sum.length < 9223372036854775807 := by rw [List.length_append, hTl, hsl]; decide
  have hov3 : ¬ 9223372036854775807 < 2 + T.length := by rw [hTl]; decide
  have hov4 : ¬ 9223372036854775807 < 2 + T.length + sum.length := by rw [hTl, hsl]; decide
  have HT := Hd.mk hT
  have HTL := Hd.mk hTl
  have HSL := Hd.mk hsl
  clear hT hTl hsl
  have HBK := Hd.mk hblk
  go_region_held3 (fun w' => w'.cell? ⟨N, 0, none⟩ = some (.int .i64 k) ∧ w'.cell? ⟨N, 1, none⟩ = some (.int .i64 n) ∧ w'.cell? ⟨N, 2, none⟩ = some (.int .i64 sl) ∧ w'.cell? ⟨N, 3, none⟩ = some (.int .i64 sz) ∧ w'.cell? ⟨N, 4, none⟩ = some (.string ⟨sum.toArray⟩))
    (first | exact ⟨c0, c1, c2, c3, c4⟩ | exact ⟨d0, d1, d2, d3, d4⟩ | go_keep)
    (first | (go_at_call 52; refine (hput w1.heap.size (w1.alloc _).drew (blk_drew (blk_new w1 _ _ _ _ rfl))).mono ?_; rintro e w2 ⟨rfl, hb⟩; have hblk2 := blk_below (blk_drew (blk_alloc HBK.out _)) hb (by show N < (w1.alloc _).heap.size; rw [sz_alloc]; omega); have d0 := blk_cell hblk2 0; have d1 := blk_cell hblk2 1; have d2 := blk_cell hblk2 2; have d3 := blk_cell hblk2 3; have d4 := blk_cell hblk2 4; simp only [List.getElem?_toArray, List.getElem?_cons_zero, List.getElem?_cons_succ] at d0 d1 d2 d3 d4))
  all_goals
    have HB2 : Hd (Below w.heap.size w w2) := ⟨((HB.out.alloc HB.out.size _).drew).trans (hb.mono (by have := HB.out.size; show _ ≤ (w1.alloc _).heap.size; rw [sz_alloc]; omega))⟩
    clear hb hblk2 d0 d1 d2 d3 d4 c0 c1 c2 c3 c4 hput hov1 hov2 hov3 hov4
    obtain ⟨H, hH⟩ : ∃ H, En.head ⟨k, n, sl, sz, sum⟩ = H := ⟨_, rfl⟩
    have hs : ({ data := #[67, 74] } : ByteArray) ++ { data := T.toArray } ++ { data := sum.toArray } = ⟨H.toArray⟩ := by
      rw [← hH, ← HT.out]
      apply ByteArray.ext
      simp [En.head]
    rw [hs]
    clear hs
    have hHl : H.length = 44 := by rw [← hH]; exact head_len _ HSL.out
    have HHD := Hd.mk hH
    have HHL := Hd.mk hHl
    clear hH hHl
    go_wp2_with fail
    refine (of_c ⟨H.toArray⟩ w2 (by show H.length ≤ _; rw [HHL.out]; decide)).mono ?_
    rintro e w3 ⟨rfl, hb⟩
    have HB3 : Hd (Below w.heap.size w w3) := ⟨HB2.out.trans (hb.mono HB2.out.size)⟩
    clear hb
    rw [show (ByteArray.mk H.toArray).data.toList = H from rfl]
    obtain ⟨Y, hY⟩ : ∃ Y, sha H = Y := ⟨_, rfl⟩
    have hYl : Y.length = 32 := by rw [← hY]; exact sha_len _
    rw [hY]
    have HY := Hd.mk hY
    have hy8 : (8 : Int) ≤ (Y.length : Int) := by rw [hYl]; decide
    clear hY
    obtain ⟨G, hG⟩ : ∃ G, H ++ Y.take 8 = G := ⟨_, rfl⟩
    have hGl : G.length = 52 := by rw [← hG, List.length_append, List.length_take, HHL.out, hYl]; rfl
    have hst : ({ data := H.toArray } : ByteArray) ++ ({ data := Y.toArray } : ByteArray).extract 0 8 = ⟨G.toArray⟩ := by
      rw [← hG]
      apply ByteArray.ext
      simp
    obtain ⟨Z, hZ⟩ : ∃ Z, List.replicate 12 (0 : UInt8) = Z := ⟨_, rfl⟩
    have hcat : ({ data := G.toArray } : ByteArray) ++ { data := Z.toArray } = ⟨X.toArray⟩ := by
      rw [← hZ, cat_lists, ← HX.out, ← hG, ← HY.out, ← HHD.out]
      rfl
    have hc5 : H.length + 8 < 9223372036854775807 := by rw [HHL.out]; decide
    have hc6 : G.length + Z.length < 9223372036854775807 := by rw [hGl, ← hZ]; decide
    have hc7 : 52 + Z.length < 9223372036854775807 := by rw [← hZ]; decide
    have HZ := Hd.mk hZ
    have HG := Hd.mk hG
    clear hG hYl hZ
    go_wp2_with (at_make; refine wpList_plain rfl fun K hK => ?_; refine W_makeB 12 _ _ ⟨⟨_, rfl⟩, ⟨_, rfl⟩, by decide⟩ ?_; intro w4 h1 h2; refine hK _ _ ?_; have HB4 : Hd (Below w.heap.size w w4) := ⟨HB3.out.grown h2 HB3.out.size (by simp)⟩; rw [HZ.out] at h1; have hcv : (convert 38 9 (.slice (some ⟨w3.heap.size, 0, none⟩) 12 12)).run Try.prog w4 = .ok (.string ⟨Z.toArray⟩) w4 := (run_strof 38 h1 Try.underlying38 9 Try.underlying9); clear h1 h2 hK)
    go_ret2
    exact ⟨rfl, HB4.out⟩
end Go.Proofs.Ytkdakmddlkgjkaa
