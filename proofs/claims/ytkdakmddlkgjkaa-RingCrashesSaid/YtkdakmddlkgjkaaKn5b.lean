import Derived.Outline
import Derived.Test.YtkdakmddlkgjkaaKn5
open Go.RowKit Go.Lib
namespace Go.Proofs.Ytkdakmddlkgjkaa
set_option maxRecDepth 100000
set_option maxHeartbeats 2000000 in
theorem known5_c (w : World) : Calls Try.prog 13 #[] w fun e w' => e = .returned (.bool true) ∧ Below w.heap.size w w' := by
  obtain ⟨D1, hD1⟩ : ∃ D1, (app (Ds0 16) kE).2.2 = D1 := ⟨_, rfl⟩
  have hk := k_disk
  rw [hD1] at hk
  obtain ⟨hp, ho, hl⟩ := hk
  have happ : ∀ {w : World} {b : Nat} {F : Nat → Prop}, IsDisk w b (Ds0 16) F → Calls Try.prog 23 #[.pointer (some ⟨b, 0, none⟩), .agg #[.int .i64 1, .int .i64 0, .int .i64 0, .int .i64 5, .string ⟨(List.replicate 32 7).toArray⟩]] w fun r w' =>
      r = .returned (.tuple #[.agg #[.int .i64 1, .int .i64 1, .int .i64 0, .int .i64 5, .string ⟨(List.replicate 32 7).toArray⟩], .int .i64 0]) ∧ ∃ F', IsDisk w' b D1 F' ∧ Upd F w w' ∧ ∀ k, F' k → F k ∨ w.heap.size ≤ k := by
    intro w b F h
    have h2 := append_c h (by decide) (by decide) kE
    rw [k_app.1, k_app.2, hD1] at h2
    exact h2
  have hlast : ∀ {w : World} {b : Nat} {F : Nat → Prop}, IsDisk w b (Ds0 16) F → Calls Try.prog 22 #[.pointer (some ⟨b, 0, none⟩)] w fun e w' => e = .returned (.tuple #[.agg #[.int .i64 0, .int .i64 0, .int .i64 0, .int .i64 0, .string ⟨#[]⟩], .bool false, .int .i64 0]) ∧ Below w.heap.size w w' := by
    intro w b F h
    have h2 := last_c h
    have e : lastV (Ds0 16) = .tuple #[.agg #[.int .i64 0, .int .i64 0, .int .i64 0, .int .i64 0, .string ⟨#[]⟩], .bool false, .int .i64 0] := by
      unfold lastV lastE
      rw [k_scan]; rfl
    rw [e] at h2
    exact h2
  obtain ⟨S, hS⟩ : ∃ S, List.replicate 32 (7 : UInt8) = S := ⟨_, rfl⟩
  have hsum : ∀ w, Calls Try.prog 25 #[.int .u8 7] w fun e w' => e = .returned (.string ⟨S.toArray⟩) ∧ Below w.heap.size w w' := by
    intro w; rw [← hS]; exact sum_5 7 w
  have hparse : ∀ w, Calls Try.prog 17 #[.string ⟨(D1.get 1).toArray⟩] w fun r w' => r = .returned (.tuple #[.agg #[.int .i64 1, .int .i64 1, .int .i64 0, .int .i64 5, .string ⟨S.toArray⟩], .bool true]) ∧ Below w.heap.size w w' := by
    intro w
    have h2 := eparse_c (D1.get 1) w
    rw [hp] at h2
    rw [← hS]
    exact h2
  have hbad : ∀ w, Calls Try.prog 14 #[.agg #[.int .i64 0, .int .i64 0, .int .i64 0, .int .i64 0, .string ⟨#[]⟩]] w fun r w' => r = .returned (.tuple #[.string ⟨#[]⟩, .int .i64 1]) ∧ Below w.heap.size w w' := fun w => ebuild_no E0 (by decide) w
  rw [hS] at happ
  obtain ⟨s1, hs1⟩ : ∃ s1, D1.get 1 = s1 := ⟨_, rfl⟩
  have hread : ∀ {w : World} {b : Nat} {F : Nat → Prop}, IsDisk w b D1 F → Calls Try.prog 50 #[.pointer (some ⟨b, 0, none⟩), .int .i64 1] w fun e w' => e = .returned (.tuple #[.string ⟨s1.toArray⟩, .int .i64 0]) ∧ w = w' := by
    intro w b F h
    have h2 := read_c h ho 1 hl
    rw [hs1] at h2
    exact h2
  rw [hs1] at hparse
  have ee := eq_ent 1 1 0 5 1 1 0 5 S S
  rw [decide_eq_true rfl] at ee
  clear hD1 hp ho hl hs1 hS
  go_enter Try.func13, Try.ntmps13
  go_wp2_with fail
  refine (new_d 16 (by decide) (by decide) w).mono ?_
  rintro e w1 ⟨b, F1, rfl, hd, hb, hF⟩
  have B1 := Hd.mk hb
  have K1 := Hd.mk hd
  have L1 := Hd.mk hF
  clear hb hd hF
  go_wp2_with fail
  refine (hlast K1.out).mono ?_
  rintro e w2 ⟨rfl, hb⟩
  have K2 := Hd.mk (K1.out.ext hb)
  have B2 : Hd (Below w.heap.size w w2) := ⟨B1.out.trans (hb.mono B1.out.size)⟩
  clear hb hlast K1 B1
  go_wp2_with fail
  refine (hsum _).mono ?_
  rintro e w3 ⟨rfl, hb⟩
  have hal : Below w2.heap.size w2 (w2.alloc (.cells #[.int .i64 0, .int .i64 0, .int .i64 0, .int .i64 0, .string ⟨#[]⟩] 28 (0, 0))) := (Below.refl _ _).alloc (Nat.le_refl _) _
  have K3 := Hd.mk ((K2.out.ext hal).ext hb)
  have B3 : Hd (Below w.heap.size w w3) := ⟨(B2.out.trans (hal.mono B2.out.size)).trans (hb.mono (Nat.le_trans B2.out.size hal.size))⟩
  clear hb hal hsum K2 B2
  go_wp2_with fail
  refine (happ K3.out).mono ?_
  rintro e w4 ⟨rfl, F4, hd, hu, hf⟩
  have K4 := Hd.mk hd
  have B4 : Hd (Below w.heap.size w w4) := ⟨B3.out.trans (hu.below B3.out.size L1.out)⟩
  clear hd hu hf happ K3 B3
  have K4a : Hd (∀ o, IsDisk (w4.alloc o) b D1 F4) := ⟨fun o => K4.out.ext ((Below.refl _ _).alloc (Nat.le_refl _) _)⟩
  go_wp2_with fail
  refine (hread (K4a.out _)).mono ?_
  rintro e w5 ⟨rfl, hw5⟩
  have x0 : w5.heap[w4.heap.size]? = some (.cells #[.int .i64 1, .int .i64 1, .int .i64 0, .int .i64 5, .string ⟨S.toArray⟩] 28 (0, 0)) := by rw [← hw5]; exact blk_new _ _ _ _ _ rfl
  have B5 : Hd (Below w.heap.size w w5) := ⟨by rw [← hw5]; exact B4.out.alloc B4.out.size _⟩
  obtain ⟨N6, hN6⟩ : ∃ N6, w4.heap.size = N6 := ⟨_, rfl⟩
  rw [hN6] at x0 ⊢
  have X5 := Hd.mk x0
  clear hread K4 K4a B4 x0 hw5 hN6
  go_wp2_with fail
  refine (hparse _).mono ?_
  rintro e w6 ⟨rfl, hb⟩
  have X6 := Hd.mk (blk_below X5.out hb (blk_lt X5.out))
  have B6 : Hd (Below w.heap.size w w6) := ⟨B5.out.trans (hb.mono B5.out.size)⟩
  clear hb hparse X5 B5
  go_wp2_with fail
  refine (hbad _).mono ?_
  rintro e w7 ⟨rfl, hb⟩
  have hal : Below w6.heap.size w6 (w6.alloc (.cells #[.int .i64 1, .int .i64 1, .int .i64 0, .int .i64 5, .string ⟨S.toArray⟩] 28 (0, 0))) := (Below.refl _ _).alloc (Nat.le_refl _) _
  have x1 := blk_below (blk_alloc X6.out (.cells #[.int .i64 1, .int .i64 1, .int .i64 0, .int .i64 5, .string ⟨S.toArray⟩] 28 (0, 0))) hb (by rw [sz_alloc]; have := blk_lt X6.out; omega)
  have x2 := blk_below (blk_new w6 #[.int .i64 1, .int .i64 1, .int .i64 0, .int .i64 5, .string ⟨S.toArray⟩] 28 (0, 0) _ rfl) hb (by rw [sz_alloc]; omega)
  have B7 : Hd (Below w.heap.size w w7) := ⟨(B6.out.trans (hal.mono B6.out.size)).trans (hb.mono (Nat.le_trans B6.out.size hal.size))⟩
  obtain ⟨N8, hN8⟩ : ∃ N8, w6.heap.size = N8 := ⟨_, rfl⟩
  rw [hN8] at x2 ⊢
  have y0 := blk_cell x1 0
  have y1 := blk_cell x1 1
  have y2 := blk_cell x1 2
  have y3 := blk_cell x1 3
  have y4 := blk_cell x1 4
  have z0 := blk_cell x2 0
  have z1 := blk_cell x2 1
  have z2 := blk_cell x2 2
  have z3 := blk_cell x2 3
  have z4 := blk_cell x2 4
  simp only [List.getElem?_toArray, List.getElem?_cons_zero, List.getElem?_cons_succ] at y0 y1 y2 y3 y4 z0 z1 z2 z3 z4
  clear hb hal hbad X6 B6 x1 x2 hN8
  go_wp2_with fail
  go_ret
  exact ⟨rfl, B7.out⟩
end Go.Proofs.Ytkdakmddlkgjkaa
