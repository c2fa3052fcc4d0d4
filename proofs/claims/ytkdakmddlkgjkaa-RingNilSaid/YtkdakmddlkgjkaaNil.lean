import Derived.Outline
import Derived.Test.YtkdakmddlkgjkaaKn5b
open Go.RowKit Go.Lib
namespace Go.Proofs.Ytkdakmddlkgjkaa
set_option maxRecDepth 100000
set_option maxHeartbeats 2000000 in
theorem nil_c (k n sl sz : Int) (s : ByteArray) (w : World) : Calls Try.prog 5 #[.agg #[.int .i64 k, .int .i64 n, .int .i64 sl, .int .i64 sz, .string s]] w fun e w' => e = .returned (.bool true) ∧ Below w.heap.size w w' := by
  obtain ⟨l, hs⟩ : ∃ l : List UInt8, s = ⟨l.toArray⟩ := ⟨s.data.toList, rfl⟩
  subst hs
  have hb0 : Below w.heap.size w (w.alloc (.cells #[.int .i64 k, .int .i64 n, .int .i64 sl, .int .i64 sz, .string ⟨l.toArray⟩] 23 (0, 0))) := (Below.refl _ _).alloc (Nat.le_refl _) _
  have B0 := Hd.mk hb0
  clear hb0
  by_cases h1 : 1000 < l.length
  · have h1' : (1000 : Int) < (l.length : Int) := by omega
    go_enter Try.func5, Try.ntmps5
    go_wp2_with fail
    refine (known5_c _).mono ?_
    rintro e w1 ⟨rfl, hb⟩
    have B1 : Hd (Below w.heap.size w w1) := ⟨B0.out.trans (hb.mono B0.out.size)⟩
    clear hb
    go_wp2_with fail
    go_ret
    exact ⟨rfl, B1.out⟩
  · have h1' : ¬ (1000 : Int) < (l.length : Int) := by omega
    have hlast : ∀ w, Calls Try.prog 22 #[.pointer none] w fun e w' => e = .returned (.tuple #[.agg #[.int .i64 0, .int .i64 0, .int .i64 0, .int .i64 0, .string ⟨#[]⟩], .bool false, .int .i64 16]) ∧ Below w.heap.size w w' := last_nil
    have happ : ∀ w, Calls Try.prog 23 #[.pointer none, .agg #[.int .i64 k, .int .i64 n, .int .i64 sl, .int .i64 sz, .string ⟨l.toArray⟩]] w fun r w' => r = .returned (.tuple #[.agg #[.int .i64 0, .int .i64 0, .int .i64 0, .int .i64 0, .string ⟨#[]⟩], .int .i64 16]) ∧ Below w.heap.size w w' := append_nil ⟨k, n, sl, sz, l⟩
    have hgiv := given_c k n sl sz l
    have x0 := blk_new w #[.int .i64 k, .int .i64 n, .int .i64 sl, .int .i64 sz, .string ⟨l.toArray⟩] 23 (0, 0) _ rfl
    have X0 := Hd.mk x0
    have ee : ∀ w, (binOp .eql 28 (.agg #[.int .i64 0, .int .i64 0, .int .i64 0, .int .i64 0, .string ⟨#[]⟩]) (.agg #[.int .i64 0, .int .i64 0, .int .i64 0, .int .i64 0, .string ⟨#[]⟩])).run Try.prog w = .ok (.bool true) w := eq_ent 0 0 0 0 0 0 0 0 [] []
    clear x0
    go_enter Try.func5, Try.ntmps5
    go_wp2_with fail
    refine (scan_nil _).mono ?_
    rintro e w1 ⟨rfl, rfl⟩
    go_wp2_with fail
    refine (hlast _).mono ?_
    rintro e w2 ⟨rfl, hb⟩
    have x2 := blk_below X0.out hb (blk_lt X0.out)
    have B2 : Hd (Below w.heap.size w w2) := ⟨B0.out.trans (hb.mono B0.out.size)⟩
    have y0 := blk_cell x2 0
    have y1 := blk_cell x2 1
    have y2 := blk_cell x2 2
    have y3 := blk_cell x2 3
    have y4 := blk_cell x2 4
    simp only [List.getElem?_toArray, List.getElem?_cons_zero, List.getElem?_cons_succ] at y0 y1 y2 y3 y4
    have yl := blk_lt x2
    clear hb hlast x2 B0 X0
    go_wp2_with fail
    refine (hgiv _).mono ?_
    rintro e w3 ⟨rfl, hb⟩
    have B3 : Hd (Below w.heap.size w w3) := ⟨(B2.out.alloc B2.out.size _).trans (hb.mono (by rw [sz_alloc]; have := B2.out.size; omega))⟩
    clear hb hgiv B2 y0 y1 y2 y3 y4 yl
    go_wp2_with fail
    refine (happ _).mono ?_
    rintro e w4 ⟨rfl, hb⟩
    have B4 : Hd (Below w.heap.size w w4) := ⟨B3.out.trans (hb.mono B3.out.size)⟩
    clear hb happ B3
    go_wp2_with fail
    refine (known5_c _).mono ?_
    rintro e w5 ⟨rfl, hb⟩
    have B5 : Hd (Below w.heap.size w w5) := ⟨(B4.out.alloc B4.out.size _).trans (hb.mono (by rw [sz_alloc]; have := B4.out.size; omega))⟩
    clear hb
    go_wp2_with fail
    go_ret
    exact ⟨rfl, B5.out⟩
end Go.Proofs.Ytkdakmddlkgjkaa
