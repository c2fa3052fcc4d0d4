import Derived.Test.YtkdakmddlkgjkaaSo
open Go.RowKit Go.Lib
namespace Go.Proofs.Ytkdakmddlkgjkaa
set_option maxRecDepth 100000
open Sha
/-! The store's small methods. -/
theorem StAt.c0 {w : World} {p b : Nat} {k : Kp} {odd : Bool} {wt : Option (Nat × Kp)} (h : StAt w p b k odd wt) : w.cell? ⟨p, 0, none⟩ = some (.int .i64 k.sl) ∧ w.cell? ⟨p, 1, none⟩ = some (.string ⟨k.tx.toArray⟩) ∧ w.cell? ⟨p, 2, none⟩ = some (.string ⟨k.sm.toArray⟩) ∧ w.cell? ⟨p, 3, none⟩ = some (.pointer (some ⟨b, 0, none⟩)) ∧ w.cell? ⟨p, 4, none⟩ = some (.bool odd) ∧ w.cell? ⟨p, 5, none⟩ = some (.pointer ((wt.map (·.1)).map fun q => ⟨q, 0, none⟩)) :=
  ⟨blk_cell h.blk 0, blk_cell h.blk 1, blk_cell h.blk 2, blk_cell h.blk 3, blk_cell h.blk 4, blk_cell h.blk 5⟩
theorem sthere_nil (w : World) : Calls Try.prog 70 #[.pointer none] w fun e w' => e = .returned (.bool false) ∧ w = w' := by
  go_enter Try.func70, Try.ntmps70
  go_wp2
  go_ret
  exact ⟨rfl, rfl⟩
theorem sthere_zero (w : World) (p : Nat) (h : w.cell? ⟨p, 3, none⟩ = some (.pointer none)) : Calls Try.prog 70 #[.pointer (some ⟨p, 0, none⟩)] w fun e w' => e = .returned (.bool false) ∧ w = w' := by
  go_enter Try.func70, Try.ntmps70
  go_wp2
  go_ret
  exact ⟨rfl, rfl⟩
section
variable {w : World} {p b : Nat} {k : Kp} {odd : Bool} {wt : Option (Nat × Kp)}
theorem sthere_c (h : StAt w p b k odd wt) : Calls Try.prog 70 #[.pointer (some ⟨p, 0, none⟩)] w fun e w' => e = .returned (.bool true) ∧ w = w' := by
  have c3 := h.c0.2.2.2.1
  clear h
  go_enter Try.func70, Try.ntmps70
  go_wp2
  go_ret
  exact ⟨rfl, rfl⟩
theorem stext_no (h : StAt w p b k odd wt) (hk : k.sl = 2) : Calls Try.prog 45 #[.pointer (some ⟨p, 0, none⟩)] w fun e w' => e = .returned (.tuple #[.string ⟨#[]⟩, .bool false]) ∧ w = w' := by
  have c0 := h.c0.1
  have ht := sthere_c h
  rw [hk] at c0
  clear h hk
  go_enter Try.func45, Try.ntmps45
  go_wp2_with (go_at_call 70; refine ht.mono ?_; rintro e w' ⟨rfl, rfl⟩)
  go_ret2
  exact ⟨rfl, rfl⟩
theorem stext_yes (h : StAt w p b k odd wt) (hk : k.sl ≠ 2) : Calls Try.prog 45 #[.pointer (some ⟨p, 0, none⟩)] w fun e w' => e = .returned (.tuple #[.string ⟨k.tx.toArray⟩, .bool true]) ∧ w = w' := by
  have c0 := h.c0.1
  have c1 := h.c0.2.1
  have ht := sthere_c h
  obtain ⟨ksl, ktx, ksm⟩ := k
  have hk2 : (ksl == 2) = false := by rw [beq_eq_false_iff_ne]; exact hk
  change w.cell? ⟨p, 0, none⟩ = some (.int .i64 ksl) at c0
  change w.cell? ⟨p, 1, none⟩ = some (.string ⟨ktx.toArray⟩) at c1
  show Calls Try.prog _ _ w fun e w' => e = .returned (.tuple #[.string ⟨ktx.toArray⟩, .bool true]) ∧ w = w'
  clear h hk
  go_enter Try.func45, Try.ntmps45
  go_wp2_with (go_at_call 70; refine ht.mono ?_; rintro e w' ⟨rfl, rfl⟩)
  go_ret2
  exact ⟨rfl, rfl⟩
theorem sodd_c (h : StAt w p b k odd wt) : Calls Try.prog 48 #[.pointer (some ⟨p, 0, none⟩)] w fun e w' => e = .returned (.bool odd) ∧ w = w' := by
  have c4 := h.c0.2.2.2.2.1
  have ht := sthere_c h
  clear h
  go_enter Try.func48, Try.ntmps48
  go_wp2_with (go_at_call 70; refine ht.mono ?_; rintro e w' ⟨rfl, rfl⟩)
  go_ret
  exact ⟨rfl, rfl⟩
theorem swaits_no (h : StAt w p b k odd none) : Calls Try.prog 46 #[.pointer (some ⟨p, 0, none⟩)] w fun e w' => e = .returned (.bool false) ∧ w = w' := by
  have c5 : w.cell? ⟨p, 5, none⟩ = some (.pointer none) := h.c0.2.2.2.2.2
  have ht := sthere_c h
  clear h
  go_enter Try.func46, Try.ntmps46
  go_wp2_with (go_at_call 70; refine ht.mono ?_; rintro e w' ⟨rfl, rfl⟩)
  go_ret
  exact ⟨rfl, rfl⟩
theorem swaits_yes {q : Nat × Kp} (h : StAt w p b k odd (some q)) : Calls Try.prog 46 #[.pointer (some ⟨p, 0, none⟩)] w fun e w' => e = .returned (.bool true) ∧ w = w' := by
  obtain ⟨q, k2⟩ := q
  have c5 : w.cell? ⟨p, 5, none⟩ = some (.pointer (some ⟨q, 0, none⟩)) := h.c0.2.2.2.2.2
  have ht := sthere_c h
  clear h
  go_enter Try.func46, Try.ntmps46
  go_wp2_with (go_at_call 70; refine ht.mono ?_; rintro e w' ⟨rfl, rfl⟩)
  go_ret
  exact ⟨rfl, rfl⟩
theorem sother_c (h : StAt w p b k odd wt) : Calls Try.prog 71 #[.pointer (some ⟨p, 0, none⟩)] w fun e w' => e = .returned (.int .i64 (if k.sl = 0 then 1 else 0)) ∧ w = w' := by
  have c0 := h.c0.1
  obtain ⟨ksl, ktx, ksm⟩ := k
  change w.cell? ⟨p, 0, none⟩ = some (.int .i64 ksl) at c0
  show Calls Try.prog _ _ w fun e w' => e = .returned (.int .i64 (if ksl = 0 then 1 else 0)) ∧ w = w'
  clear h
  by_cases hk : ksl = 0
  · have hk2 : (ksl == 0) = true := by rw [beq_iff_eq]; exact hk
    rw [if_pos hk]
    clear hk
    go_enter Try.func71, Try.ntmps71
    go_wp2
    go_ret
    exact ⟨rfl, rfl⟩
  · have hk2 : (ksl == 0) = false := by rw [beq_eq_false_iff_ne]; exact hk
    rw [if_neg hk]
    clear hk
    go_enter Try.func71, Try.ntmps71
    go_wp2
    go_ret
    exact ⟨rfl, rfl⟩
end
end Go.Proofs.Ytkdakmddlkgjkaa
open Go.RowKit Go.Lib
namespace Go.Proofs.Ytkdakmddlkgjkaa
set_option maxRecDepth 100000
open Sha
/-! store.take. -/
theorem Upd.setNew {M : Nat → Prop} {a w : World} (h : Upd M a w) {p : Addr} (hp : a.heap.size ≤ p.block) (u : Value) : Upd M a (w.setCell p u) := by
  have h2 : Upd (fun k => M k ∨ a.heap.size ≤ k) a (w.setCell p u) := (h.mono fun k _ hk => .inl hk).setCell (.inr hp) u
  exact h2.mono fun k hk hc => hc.resolve_right (by omega)
section
variable {w : World} {p b : Nat} {k : Kp} {odd : Bool}
theorem StAt.alloc {wt : Option (Nat × Kp)} (h : StAt w p b k odd wt) (o : Obj) : StAt (w.alloc o) p b k odd wt :=
  ⟨blk_alloc h.blk o, fun q k' e => ⟨blk_alloc (h.wq q k' e).1 o, (h.wq q k' e).2⟩⟩
theorem stake_nil (w : World) : Calls Try.prog 74 #[.pointer none] w fun e w' => e = .returned (.tuple #[kv Kz, .int .i64 16]) ∧ Below w.heap.size w w' := by
  show Calls Try.prog _ _ w fun e w' => e = .returned (.tuple #[.agg #[.int .i64 0, .string ⟨#[]⟩, .string ⟨#[]⟩], .int .i64 16]) ∧ Below w.heap.size w w'
  have hb0 : Hd (∀ o, Below w.heap.size w (w.alloc o)) := ⟨fun o => (Below.refl _ _).alloc (Nat.le_refl _) o⟩
  go_enter Try.func74, Try.ntmps74
  go_wp2_with fail
  refine (sthere_nil _).mono ?_
  rintro e w' ⟨rfl, rfl⟩
  go_wp2_with fail
  refine bodyPost_ret (v := .tuple #[.agg #[.int .i64 0, .string ⟨#[]⟩, .string ⟨#[]⟩], .int .i64 16]) (by simp [results, Try.results74, go_sem]) rfl ⟨rfl, hb0.out _⟩
theorem stake_no (h : StAt w p b k odd none) : Calls Try.prog 74 #[.pointer (some ⟨p, 0, none⟩)] w fun e w' => e = .returned (.tuple #[kv Kz, .int .i64 8]) ∧ Below w.heap.size w w' := by
  show Calls Try.prog _ _ w fun e w' => e = .returned (.tuple #[.agg #[.int .i64 0, .string ⟨#[]⟩, .string ⟨#[]⟩], .int .i64 8]) ∧ Below w.heap.size w w'
  have hb0 : Hd (∀ o, Below w.heap.size w (w.alloc o)) := ⟨fun o => (Below.refl _ _).alloc (Nat.le_refl _) o⟩
  have c5 : ∀ o, (w.alloc o).cell? ⟨p, 5, none⟩ = some (.pointer none) := fun o => (h.alloc o).c0.2.2.2.2.2
  have ht := fun o => sthere_c (h.alloc o)
  clear h
  go_enter Try.func74, Try.ntmps74
  go_wp2_with fail
  refine (ht _).mono ?_
  rintro e w' ⟨rfl, rfl⟩
  go_wp2_with fail
  refine bodyPost_ret (v := .tuple #[.agg #[.int .i64 0, .string ⟨#[]⟩, .string ⟨#[]⟩], .int .i64 8]) (by simp [results, Try.results74, go_sem]) rfl ⟨rfl, hb0.out _⟩
set_option maxHeartbeats 1000000 in
theorem stake_yes {q : Nat} {k2 : Kp} (h : StAt w p b k odd (some (q, k2))) : Calls Try.prog 74 #[.pointer (some ⟨p, 0, none⟩)] w fun e w' => e = .returned (.tuple #[kv k2, .int .i64 0]) ∧ StAt w' p b k odd none ∧ Upd (fun i => i = p) w w' := by
  obtain ⟨sl, tx, sm⟩ := k2
  show Calls Try.prog _ _ w fun e w' => e = .returned (.tuple #[.agg #[.int .i64 sl, .string ⟨tx.toArray⟩, .string ⟨sm.toArray⟩], .int .i64 0]) ∧ StAt w' p b k odd none ∧ Upd (fun i => i = p) w w'
  have c5 : ∀ o, (w.alloc o).cell? ⟨p, 5, none⟩ = some (.pointer (some ⟨q, 0, none⟩)) := fun o => (h.alloc o).c0.2.2.2.2.2
  have e5 : ∀ o o2, ((w.alloc o).alloc o2).cell? ⟨p, 5, none⟩ = some (.pointer (some ⟨q, 0, none⟩)) := fun o o2 => ((h.alloc o).alloc o2).c0.2.2.2.2.2
  have f5 : ∀ o o2, ((w.alloc o).alloc o2).frozen? ⟨p, 5, none⟩ = false := fun o o2 => blk_free ((h.alloc o).alloc o2).blk 5
  have q0 : ∀ o, (w.alloc o).cell? ⟨q, 0, none⟩ = some (.int .i64 sl) := fun o => blk_cell ((h.alloc o).wq q _ rfl).1 0
  have q1 : ∀ o, (w.alloc o).cell? ⟨q, 1, none⟩ = some (.string ⟨tx.toArray⟩) := fun o => blk_cell ((h.alloc o).wq q _ rfl).1 1
  have q2 : ∀ o, (w.alloc o).cell? ⟨q, 2, none⟩ = some (.string ⟨sm.toArray⟩) := fun o => blk_cell ((h.alloc o).wq q _ rfl).1 2
  have ht := fun o => sthere_c (h.alloc o)
  have HS := Hd.mk h
  have hplt : Hd (p < w.heap.size) := ⟨blk_lt h.blk⟩
  clear h
  go_enter Try.func74, Try.ntmps74
  go_wp2_with fail
  refine (ht _).mono ?_
  rintro e w' ⟨rfl, rfl⟩
  clear ht
  go_wp2_with fail
  have hne : p ≠ w.heap.size := by have := hplt.out; omega
  have hst : ∀ v0 v1 v2 o o2, StAt ((((((w.alloc o).alloc o2).setCell ⟨p, 5, none⟩ (.pointer none)).setCell ⟨w.heap.size, 0, none⟩ v0).setCell ⟨w.heap.size, 1, none⟩ v1).setCell ⟨w.heap.size, 2, none⟩ v2) p b k odd none := fun v0 v1 v2 o o2 => by
    refine ⟨?_, fun q k' e => by cases e⟩
    have h := blk_set_ne (blk_set_ne (blk_set_ne (blk_set ((HS.out.alloc o).alloc o2).blk 5 (.pointer none)) ⟨w.heap.size, 0, none⟩ v0 hne) ⟨w.heap.size, 1, none⟩ v1 hne) ⟨w.heap.size, 2, none⟩ v2 hne
    rw [h]
    rfl
  have hup : ∀ v0 v1 v2 o o2, Upd (fun i => i = p) w ((((((w.alloc o).alloc o2).setCell ⟨p, 5, none⟩ (.pointer none)).setCell ⟨w.heap.size, 0, none⟩ v0).setCell ⟨w.heap.size, 1, none⟩ v1).setCell ⟨w.heap.size, 2, none⟩ v2) := fun v0 v1 v2 o o2 =>
    ((((((Upd.refl (fun i => i = p) w).alloc o).alloc o2).setCell (p := ⟨p, 5, none⟩) rfl _).setNew (p := ⟨w.heap.size, 0, none⟩) (Nat.le_refl _) _).setNew (p := ⟨w.heap.size, 1, none⟩) (Nat.le_refl _) _).setNew (p := ⟨w.heap.size, 2, none⟩) (Nat.le_refl _) _
  refine bodyPost_ret (v := .tuple #[.agg #[.int .i64 sl, .string ⟨tx.toArray⟩, .string ⟨sm.toArray⟩], .int .i64 0]) ?hr rfl ⟨rfl, hst _ _ _ _ _, hup _ _ _ _ _⟩
  case hr =>
    have hnb := blk_set_ne (blk_alloc (blk_new w #[.int .i64 0, .string ⟨#[]⟩, .string ⟨#[]⟩] 90 (0, 0) w.heap.size rfl) (.cells #[.int .i64 sl, .string ⟨tx.toArray⟩, .string ⟨sm.toArray⟩] 90 (0, 0))) ⟨p, 5, none⟩ (.pointer none) (fun e => hne e.symm)
    have d0 := blk_cell hnb 0
    have d1 := blk_cell hnb 1
    have d2 := blk_cell hnb 2
    simp only [List.getElem?_toArray, List.getElem?_cons_zero, List.getElem?_cons_succ] at d0 d1 d2
    simp [results, Try.results74, go_sem, d0, d1, d2]
end
end Go.Proofs.Ytkdakmddlkgjkaa
open Go.RowKit Go.Lib
namespace Go.Proofs.Ytkdakmddlkgjkaa
set_option maxRecDepth 100000
open Sha
/-! store.Commit. -/
section
variable {w : World} {p b : Nat} {k : Kp} {odd : Bool}
theorem StAt.below {w' : World} {wt : Option (Nat × Kp)} (h : StAt w p b k odd wt) (hb : Below w.heap.size w w') : StAt w' p b k odd wt :=
  h.keep (hb.block p (blk_lt h.blk)) fun q k' e => hb.block q (blk_lt (h.wq q k' e).1)
theorem StAt.drew {wt : Option (Nat × Kp)} (h : StAt w p b k odd wt) : StAt w.drew p b k odd wt := ⟨h.blk, h.wq⟩
theorem scommit_nil (w : World) : Calls Try.prog 44 #[.pointer none] w fun e w' => e = .returned (.int .i64 16) ∧ Below w.heap.size w w' := by
  have ht := stake_nil w
  change Calls Try.prog _ _ w fun e w' => e = .returned (.tuple #[.agg #[.int .i64 0, .string ⟨#[]⟩, .string ⟨#[]⟩], .int .i64 16]) ∧ Below w.heap.size w w' at ht
  go_enter Try.func44, Try.ntmps44
  go_wp2_with fail
  refine ht.mono ?_
  rintro e w1 ⟨rfl, hb⟩
  have B1 := Hd.mk hb
  clear hb ht
  go_wp2_with fail
  go_ret
  exact ⟨rfl, B1.out.alloc B1.out.size _⟩
theorem scommit_no (h : StAt w p b k odd none) : Calls Try.prog 44 #[.pointer (some ⟨p, 0, none⟩)] w fun e w' => e = .returned (.int .i64 8) ∧ Below w.heap.size w w' := by
  have ht := stake_no h
  change Calls Try.prog _ _ w fun e w' => e = .returned (.tuple #[.agg #[.int .i64 0, .string ⟨#[]⟩, .string ⟨#[]⟩], .int .i64 8]) ∧ Below w.heap.size w w' at ht
  clear h
  go_enter Try.func44, Try.ntmps44
  go_wp2_with fail
  refine ht.mono ?_
  rintro e w1 ⟨rfl, hb⟩
  have B1 := Hd.mk hb
  clear hb ht
  go_wp2_with fail
  go_ret
  exact ⟨rfl, B1.out.alloc B1.out.size _⟩
end
end Go.Proofs.Ytkdakmddlkgjkaa
