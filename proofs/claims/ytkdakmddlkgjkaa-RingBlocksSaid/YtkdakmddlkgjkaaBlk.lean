import Derived.Outline
import Derived.Deep.RegionHeld3
import Derived.Deep.DeepCutAuto
import Derived.Test.YtkdakmddlkgjkaaRs
import Derived.Test.YtkdakmddlkgjkaaKn5b
open Go.RowKit Go.Lib
namespace Go.Proofs.Ytkdakmddlkgjkaa
set_option maxRecDepth 100000
open Sha
/-! The law RingBlocks. -/
theorem blocks_e (k n sl sz : Int) (l s : List UInt8) (h1 : 1000 < l.length) (w : World) :
    Calls Try.prog 3 #[.agg #[.int .i64 k, .int .i64 n, .int .i64 sl, .int .i64 sz, .string ⟨l.toArray⟩], .string ⟨s.toArray⟩] w fun e w' => e = .returned (.bool true) ∧ Below w.heap.size w w' := by
  have B0 : Hd (Below w.heap.size w (w.alloc (.cells #[.int .i64 k, .int .i64 n, .int .i64 sl, .int .i64 sz, .string ⟨l.toArray⟩] 23 (0, 0)))) := ⟨(Below.refl _ _).alloc (Nat.le_refl _) _⟩
  have h1' : (1000 : Int) < (l.length : Int) := by omega
  go_enter Try.func3, Try.ntmps3
  go_wp2_with fail
  refine (known5_c _).mono ?_
  rintro e w1 ⟨rfl, hb⟩
  have B1 : Hd (Below w.heap.size w w1) := ⟨B0.out.trans (hb.mono B0.out.size)⟩
  clear hb
  go_wp2_with fail
  go_ret
  exact ⟨rfl, B1.out⟩
theorem blocks_s (k n sl sz : Int) (l s : List UInt8) (h1 : ¬ 1000 < l.length) (h2 : 1000 < s.length) (w : World) :
    Calls Try.prog 3 #[.agg #[.int .i64 k, .int .i64 n, .int .i64 sl, .int .i64 sz, .string ⟨l.toArray⟩], .string ⟨s.toArray⟩] w fun e w' => e = .returned (.bool true) ∧ Below w.heap.size w w' := by
  have B0 : Hd (Below w.heap.size w (w.alloc (.cells #[.int .i64 k, .int .i64 n, .int .i64 sl, .int .i64 sz, .string ⟨l.toArray⟩] 23 (0, 0)))) := ⟨(Below.refl _ _).alloc (Nat.le_refl _) _⟩
  have h1' : ¬ (1000 : Int) < (l.length : Int) := by omega
  have h2' : (1000 : Int) < (s.length : Int) := by omega
  go_enter Try.func3, Try.ntmps3
  go_wp2_with fail
  refine (known5_c _).mono ?_
  rintro e w1 ⟨rfl, hb⟩
  have B1 : Hd (Below w.heap.size w w1) := ⟨B0.out.trans (hb.mono B0.out.size)⟩
  clear hb
  go_wp2_with fail
  go_ret
  exact ⟨rfl, B1.out⟩
set_option maxHeartbeats 2000000 in
theorem blocks_ok (k n sl sz : Int) (l s : List UInt8) (h1 : ¬ 1000 < l.length) (h2 : ¬ 1000 < s.length) (w : World) :
    Calls Try.prog 3 #[.agg #[.int .i64 k, .int .i64 n, .int .i64 sl, .int .i64 sz, .string ⟨l.toArray⟩], .string ⟨s.toArray⟩] w fun e w' => e = .returned (.bool true) ∧ Below w.heap.size w w' := by
  have h1' : ¬ (1000 : Int) < (l.length : Int) := by omega
  have h2' : ¬ (1000 : Int) < (s.length : Int) := by omega
  have hA := fun w => ebuild_c ⟨k, n, sl, sz, l⟩ w
  have hB := fun w => bbuild_c ⟨k, n, sl, sz, l⟩ w
  have hC := fun w => eparse_c s w
  have hD := fun w => bparse_c s w
  obtain ⟨b, hb⟩ : ∃ b, (build ⟨k, n, sl, sz, l⟩).getD [] = b := ⟨_, rfl⟩
  obtain ⟨g, hg⟩ : ∃ g : Int, (if (En.mk k n sl sz l).right then 0 else 1) = g := ⟨_, rfl⟩
  obtain ⟨o, ho⟩ : ∃ o, parse s = o := ⟨_, rfl⟩
  obtain ⟨q, hq⟩ : ∃ q, o.isSome = q := ⟨_, rfl⟩
  obtain ⟨⟨xk, xn, xl, xz, xs⟩, hx⟩ : ∃ x, o.getD E0 = x := ⟨_, rfl⟩
  simp only [hb, hg] at hA hB
  simp only [ho, pv, hq, hx] at hC hD
  change ∀ w, Calls Try.prog 14 #[.agg #[.int .i64 k, .int .i64 n, .int .i64 sl, .int .i64 sz, .string ⟨l.toArray⟩]] w fun r w' => r = .returned (.tuple #[.string ⟨b.toArray⟩, .int .i64 g]) ∧ Below w.heap.size w w' at hA
  change ∀ w, Calls Try.prog 16 #[.agg #[.int .i64 k, .int .i64 n, .int .i64 sl, .int .i64 sz, .string ⟨l.toArray⟩]] w fun r w' => r = .returned (.tuple #[.string ⟨b.toArray⟩, .int .i64 g]) ∧ Below w.heap.size w w' at hB
  change ∀ w, Calls Try.prog 17 #[.string ⟨s.toArray⟩] w fun r w' => r = .returned (.tuple #[.agg #[.int .i64 xk, .int .i64 xn, .int .i64 xl, .int .i64 xz, .string ⟨xs.toArray⟩], .bool q]) ∧ Below w.heap.size w w' at hC
  change ∀ w, Calls Try.prog 18 #[.string ⟨s.toArray⟩] w fun r w' => r = .returned (.tuple #[.agg #[.int .i64 xk, .int .i64 xn, .int .i64 xl, .int .i64 xz, .string ⟨xs.toArray⟩], .bool q]) ∧ Below w.heap.size w w' at hD
  have hgiv := given_c k n sl sz l
  have htak := taken_c xk xn xl xz xs
  have hbb : (b == b) = true := by simp
  clear hb hg ho hq hx h1 h2
  have B0 : Hd (Below w.heap.size w (w.alloc (.cells #[.int .i64 k, .int .i64 n, .int .i64 sl, .int .i64 sz, .string ⟨l.toArray⟩] 23 (0, 0)))) := ⟨(Below.refl _ _).alloc (Nat.le_refl _) _⟩
  obtain ⟨N, hN⟩ : ∃ N, w.heap.size = N := ⟨_, rfl⟩
  have X0 : Hd ((w.alloc (.cells #[.int .i64 k, .int .i64 n, .int .i64 sl, .int .i64 sz, .string ⟨l.toArray⟩] 23 (0, 0))).heap[N]? = some (.cells #[.int .i64 k, .int .i64 n, .int .i64 sl, .int .i64 sz, .string ⟨l.toArray⟩] 23 (0, 0))) := ⟨blk_new _ _ _ _ _ hN⟩
  have HN := Hd.mk hN
  clear hN
  go_enter Try.func3, Try.ntmps3
  go_wp2_with fail
  refine (hgiv _).mono ?_
  rintro e w1 ⟨rfl, hb⟩
  have B1 : Hd (Below w.heap.size w w1) := ⟨B0.out.trans (hb.mono B0.out.size)⟩
  have X1 := Hd.mk (blk_below X0.out hb (blk_lt X0.out))
  clear hb hgiv B0 X0
  go_wp2_with fail
  refine (hA _).mono ?_
  rintro e w2 ⟨rfl, hb⟩
  have B2 : Hd (Below w.heap.size w w2) := ⟨B1.out.trans (hb.mono B1.out.size)⟩
  have X2 := Hd.mk (blk_below X1.out hb (blk_lt X1.out))
  rw [HN.out]
  clear hb hA X1 B1
  have hx := X2.out
  have x0 := blk_cell hx 0; have x1 := blk_cell hx 1; have x2 := blk_cell hx 2; have x3 := blk_cell hx 3; have x4 := blk_cell hx 4
  simp only [List.getElem?_toArray, List.getElem?_cons_zero, List.getElem?_cons_succ] at x0 x1 x2 x3 x4
  clear hx
  go_wp2_with fail
  refine (hB _).mono ?_
  rintro e w3 ⟨rfl, hb⟩
  have B3 : Hd (Below w.heap.size w w3) := ⟨B2.out.trans (hb.mono B2.out.size)⟩
  clear hb hB X2 B2 x0 x1 x2 x3 x4
  go_wp2_with fail
  refine (hC _).mono ?_
  rintro e w4 ⟨rfl, hb⟩
  have B4 : Hd (Below w.heap.size w w4) := ⟨B3.out.trans (hb.mono B3.out.size)⟩
  clear hb hC B3
  obtain ⟨N4, hN4⟩ : ∃ N4, w4.heap.size = N4 := ⟨_, rfl⟩
  have Y4 := Hd.mk (blk_new w4 #[.int .i64 xk, .int .i64 xn, .int .i64 xl, .int .i64 xz, .string ⟨xs.toArray⟩] 28 (0, 0) N4 hN4)
  have HN4 := Hd.mk hN4
  clear hN4
  go_wp2_with fail
  refine (hD _).mono ?_
  rintro e w5 ⟨rfl, hb⟩
  have B5 : Hd (Below w.heap.size w w5) := ⟨(B4.out.alloc B4.out.size _).trans (hb.mono (by rw [sz_alloc]; have := B4.out.size; omega))⟩
  have Y5 := Hd.mk (blk_below Y4.out hb (blk_lt Y4.out))
  rw [HN4.out]
  clear hb hD B4 Y4 HN4 HN
  obtain ⟨N5, hN5⟩ : ∃ N5, w5.heap.size = N5 := ⟨_, rfl⟩
  go_upto_region 7 with fail
  refine wp_world (fun w6 => w6.heap[N4]? = some (.cells #[.int .i64 xk, .int .i64 xn, .int .i64 xl, .int .i64 xz, .string ⟨xs.toArray⟩] 28 (0, 0)) ∧ w6.heap[N5]? = some (.cells #[.int .i64 xk, .int .i64 xn, .int .i64 xl, .int .i64 xz, .string ⟨xs.toArray⟩] 23 (0, 0)) ∧ Below w.heap.size w w6) ⟨blk_alloc Y5.out _, blk_new _ _ _ _ _ hN5, B5.out.alloc B5.out.size _⟩ ?_
  clear Y5 B5 hN5
  rintro w6 ⟨hy, hx, hB⟩
  have HY := Hd.mk hy
  have HX := Hd.mk hx
  have B6 := Hd.mk hB
  have y0 := blk_cell hy 0; have y1 := blk_cell hy 1; have y2 := blk_cell hy 2; have y3 := blk_cell hy 3; have y4 := blk_cell hy 4
  have x0 := blk_cell hx 0; have x1 := blk_cell hx 1; have x2 := blk_cell hx 2; have x3 := blk_cell hx 3; have x4 := blk_cell hx 4
  simp only [List.getElem?_toArray, List.getElem?_cons_zero, List.getElem?_cons_succ] at y0 y1 y2 y3 y4 x0 x1 x2 x3 x4
  clear hy hx hB
  have heq := eq_ref xk xn xl xz xk xn xl xz xs xs
  simp only [decide_true] at heq
  cases q
  all_goals
    go_region_held3 (fun w' => w'.cell? ⟨N4, 0, none⟩ = some (.int .i64 xk) ∧ w'.cell? ⟨N4, 1, none⟩ = some (.int .i64 xn) ∧ w'.cell? ⟨N4, 2, none⟩ = some (.int .i64 xl) ∧ w'.cell? ⟨N4, 3, none⟩ = some (.int .i64 xz) ∧ w'.cell? ⟨N4, 4, none⟩ = some (.string ⟨xs.toArray⟩) ∧ w'.cell? ⟨N5, 0, none⟩ = some (.int .i64 xk) ∧ w'.cell? ⟨N5, 1, none⟩ = some (.int .i64 xn) ∧ w'.cell? ⟨N5, 2, none⟩ = some (.int .i64 xl) ∧ w'.cell? ⟨N5, 3, none⟩ = some (.int .i64 xz) ∧ w'.cell? ⟨N5, 4, none⟩ = some (.string ⟨xs.toArray⟩))
      (first | exact ⟨y0, y1, y2, y3, y4, x0, x1, x2, x3, x4⟩ | exact ⟨z0, z1, z2, z3, z4, v0, v1, v2, v3, v4⟩ | exact ⟨t0, t1, t2, t3, t4, u0, u1, u2, u3, u4⟩)
      (first
        | (go_at_call 19; refine (htak _).mono ?_; rintro e w7 ⟨rfl, hb⟩; have hyy := blk_below (blk_drew HY.out) hb (blk_lt HY.out); have hxx := blk_below (blk_drew HX.out) hb (blk_lt HX.out); have z0 := blk_cell hyy 0; have z1 := blk_cell hyy 1; have z2 := blk_cell hyy 2; have z3 := blk_cell hyy 3; have z4 := blk_cell hyy 4; have v0 := blk_cell hxx 0; have v1 := blk_cell hxx 1; have v2 := blk_cell hxx 2; have v3 := blk_cell hxx 3; have v4 := blk_cell hxx 4; simp only [List.getElem?_toArray, List.getElem?_cons_zero, List.getElem?_cons_succ] at z0 z1 z2 z3 z4 v0 v1 v2 v3 v4)
        | (go_at_call 13; refine (known5_c _).mono ?_; rintro e w8 ⟨rfl, hb8⟩; have hyz := blk_below hyy hb8 (blk_lt hyy); have hxz := blk_below hxx hb8 (blk_lt hxx); have t0 := blk_cell hyz 0; have t1 := blk_cell hyz 1; have t2 := blk_cell hyz 2; have t3 := blk_cell hyz 3; have t4 := blk_cell hyz 4; have u0 := blk_cell hxz 0; have u1 := blk_cell hxz 1; have u2 := blk_cell hxz 2; have u3 := blk_cell hxz 3; have u4 := blk_cell hxz 4; simp only [List.getElem?_toArray, List.getElem?_cons_zero, List.getElem?_cons_succ] at t0 t1 t2 t3 t4 u0 u1 u2 u3 u4))
    all_goals
      have B8 : Hd (Below w.heap.size w w8) := ⟨(B6.out.drew.trans (hb.mono B6.out.size)).trans (hb8.mono (B6.out.drew.trans (hb.mono B6.out.size)).size)⟩
      clear hb hb8 hyy hxx hyz hxz x0 x1 x2 x3 x4 y0 y1 y2 y3 y4 z0 z1 z2 z3 z4 v0 v1 v2 v3 v4 t0 t1 t2 t3 t4 u0 u1 u2 u3 u4 heq
      go_wp2_with fail
      go_ret
      exact ⟨rfl, B8.out⟩
theorem blocks_c (k n sl sz : Int) (s0 s1 : ByteArray) (w : World) :
    Calls Try.prog 3 #[.agg #[.int .i64 k, .int .i64 n, .int .i64 sl, .int .i64 sz, .string s0], .string s1] w fun e w' => e = .returned (.bool true) ∧ Below w.heap.size w w' := by
  obtain ⟨l, hs⟩ : ∃ l : List UInt8, s0 = ⟨l.toArray⟩ := ⟨s0.data.toList, rfl⟩
  obtain ⟨s, hs1⟩ : ∃ l : List UInt8, s1 = ⟨l.toArray⟩ := ⟨s1.data.toList, rfl⟩
  subst hs
  subst hs1
  by_cases h1 : 1000 < l.length
  · exact blocks_e k n sl sz l s h1 w
  · by_cases h2 : 1000 < s.length
    · exact blocks_s k n sl sz l s h1 h2 w
    · exact blocks_ok k n sl sz l s h1 h2 w
end Go.Proofs.Ytkdakmddlkgjkaa
