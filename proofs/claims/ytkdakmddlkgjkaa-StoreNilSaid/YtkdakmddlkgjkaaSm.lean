import Derived.Test.YtkdakmddlkgjkaaSo
open Go.RowKit Go.Lib
namespace Go.Proofs.Ytkdakmddlkgjkaa
set_option maxRecDepth 100000
open Sha
/-! The store's small methods. -/
theorem StAt.c0 {w : World} {p b : Nat} {k : Kp} {odd : Bool} {wt : Option (Nat × Kp)} (h : StAt w p b k odd wt) : w.cell? ⟨p, 0, none⟩ = some (.int .i64 k.sl) ∧ w.cell? ⟨p, 1, none⟩ = some (.string ⟨k.tx.toArray⟩) ∧ w.cell? ⟨p, 2, none⟩ = some (.string ⟨k.sm.toArray⟩) ∧ w.cell? ⟨p, 3, none⟩ = some (.pointer (some ⟨b, 0, none⟩)) ∧ w.cell? ⟨p, 4, none⟩ = some (.bool odd) ∧ w.cell? ⟨p, 5, none⟩ = some (.pointer ((wt.map (·.1)).map fun q => ⟨q, 0, none⟩)) :=
  ⟨blk_cell h.blk 0, blk_cell h.blk 1, blk_cell h.blk 2, blk_cell h.blk 3, blk_cell h.blk 4, blk_cell h.blk 5⟩
theorem sthere_nil (w : World) : Calls Try.prog 70 #[.pointer none] w fun e w' => e = .returned (.bool false) ∧ w = w' := by
  go_enter Try.func70, Try.ntmps70
  go_wp2
  go_ret
  exact ⟨rfl, rfl⟩
theorem sthere_zero (w : World) (p : Nat) (h : w.cell? ⟨p, 3, none⟩ = some (.pointer none)) : Calls Try.prog 70 #[.pointer (some ⟨p, 0, none⟩)] w fun e w' => e = .returned (.bool false) ∧ w = w' := by
  go_enter Try.func70, Try.ntmps70
  go_wp2
  go_ret
  exact ⟨rfl, rfl⟩
section
variable {w : World} {p b : Nat} {k : Kp} {odd : Bool} {wt : Option (Nat × Kp)}
theorem sthere_c (h : StAt w p b k odd wt) : Calls Try.prog 70 #[.pointer (some ⟨p, 0, none⟩)] w fun e w' => e = .returned (.bool true) ∧ w = w' := by
  have c3 := h.c0.2.2.2.1
  clear h
  go_enter Try.func70, Try.ntmps70
  go_wp2
  go_ret
  exact ⟨rfl, rfl⟩
theorem stext_no (h : StAt w p b k odd wt) (hk : k.sl = 2) : Calls Try.prog 45 #[.pointer (some ⟨p, 0, none⟩)] w fun e w' => e = .returned (.tuple #[.string ⟨#[]⟩, .bool false]) ∧ w = w' := by
  have c0 := h.c0.1
  have ht := sthere_c h
  rw [hk] at c0
  clear h hk
  go_enter Try.func45, Try.ntmps45
  go_wp2_with (go_at_call 70; refine ht.mono ?_; rintro e w' ⟨rfl, rfl⟩)
  go_ret2
  exact ⟨rfl, rfl⟩
theorem stext_yes (h : StAt w p b k odd wt) (hk : k.sl ≠ 2) : Calls Try.prog 45 #[.pointer (some ⟨p, 0, none⟩)] w fun e w' => e = .returned (.tuple #[.string ⟨k.tx.toArray⟩, .bool true]) ∧ w = w' := by
  have c0 := h.c0.1
  have c1 := h.c0.2.1
  have ht := sthere_c h
  obtain ⟨ksl, ktx, ksm⟩ := k
  have hk2 : (ksl == 2) = false := by rw [beq_eq_false_iff_ne]; exact hk
  change w.cell? ⟨p, 0, none⟩ = some (.int .i64 ksl) at c0
  change w.cell? ⟨p, 1, none⟩ = some (.string ⟨ktx.toArray⟩) at c1
  show Calls Try.prog _ _ w fun e w' => e = .returned (.tuple #[.string ⟨ktx.toArray⟩, .bool true]) ∧ w = w'
  clear h hk
  go_enter Try.func45, Try.ntmps45
  go_wp2_with (go_at_call 70; refine ht.mono ?_; rintro e w' ⟨rfl, rfl⟩)
  go_ret2
  exact ⟨rfl, rfl⟩
theorem sodd_c (h : StAt w p b k odd wt) : Calls Try.prog 48 #[.pointer (some ⟨p, 0, none⟩)] w fun e w' => e = .returned (.bool odd) ∧ w = w' := by
  have c4 := h.c0.2.2.2.2.1
  have ht := sthere_c h
  clear h
  go_enter Try.func48, Try.ntmps48
  go_wp2_with (go_at_call 70; refine ht.mono ?_; rintro e w' ⟨rfl, rfl⟩)
  go_ret
  exact ⟨rfl, rfl⟩
theorem swaits_no (h : StAt w p b k odd none) : Calls Try.prog 46 #[.pointer (some ⟨p, 0, none⟩)] w fun e w' => e = .returned (.bool false) ∧ w = w' := by
  have c5 : w.cell? ⟨p, 5, none⟩ = some (.pointer none) := h.c0.2.2.2.2.2
  have ht := sthere_c h
  clear h
  go_enter Try.func46, Try.ntmps46
  go_wp2_with (go_at_call 70; refine ht.mono ?_; rintro e w' ⟨rfl, rfl⟩)
  go_ret
  exact ⟨rfl, rfl⟩
theorem swaits_yes {q : Nat × Kp} (h : StAt w p b k odd (some q)) : Calls Try.prog 46 #[.pointer (some ⟨p, 0, none⟩)] w fun e w' => e = .returned (.bool true) ∧ w = w' := by
  obtain ⟨q, k2⟩ := q
  have c5 : w.cell? ⟨p, 5, none⟩ = some (.pointer (some ⟨q, 0, none⟩)) := h.c0.2.2.2.2.2
  have ht := sthere_c h
  clear h
  go_enter Try.func46, Try.ntmps46
  go_wp2_with (go_at_call 70; refine ht.mono ?_; rintro e w' ⟨rfl, rfl⟩)
  go_ret
  exact ⟨rfl, rfl⟩
theorem sother_c (h : StAt w p b k odd wt) : Calls Try.prog 71 #[.pointer (some ⟨p, 0, none⟩)] w fun e w' => e = .returned (.int .i64 (if k.sl = 0 then 1 else 0)) ∧ w = w' := by
  have c0 := h.c0.1
  obtain ⟨ksl, ktx, ksm⟩ := k
  change w.cell? ⟨p, 0, none⟩ = some (.int .i64 ksl) at c0
  show Calls Try.prog _ _ w fun e w' => e = .returned (.int .i64 (if ksl = 0 then 1 else 0)) ∧ w = w'
  clear h
  by_cases hk : ksl = 0
  · have hk2 : (ksl == 0) = true := by rw [beq_iff_eq]; exact hk
    rw [if_pos hk]
    clear hk
    go_enter Try.func71, Try.ntmps71
    go_wp2
    go_ret
    exact ⟨rfl, rfl⟩
  · have hk2 : (ksl == 0) = false := by rw [beq_eq_false_iff_ne]; exact hk
    rw [if_neg hk]
    clear hk
    go_enter Try.func71, Try.ntmps71
    go_wp2
    go_ret
    exact ⟨rfl, rfl⟩
end
end Go.Proofs.Ytkdakmddlkgjkaa
