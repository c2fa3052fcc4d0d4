import Derived.Test.YtkdakmddlkgjkaaTk
open Go.RowKit Go.Lib
namespace Go.Proofs.Ytkdakmddlkgjkaa
set_option maxRecDepth 100000
open Sha
/-! store.Commit. -/
section
variable {w : World} {p b : Nat} {k : Kp} {odd : Bool}
theorem StAt.below {w' : World} {wt : Option (Nat × Kp)} (h : StAt w p b k odd wt) (hb : Below w.heap.size w w') : StAt w' p b k odd wt :=
  h.keep (hb.block p (blk_lt h.blk)) fun q k' e => hb.block q (blk_lt (h.wq q k' e).1)
theorem StAt.drew {wt : Option (Nat × Kp)} (h : StAt w p b k odd wt) : StAt w.drew p b k odd wt := ⟨h.blk, h.wq⟩
theorem scommit_nil (w : World) : Calls Try.prog 44 #[.pointer none] w fun e w' => e = .returned (.int .i64 16) ∧ Below w.heap.size w w' := by
  have ht := stake_nil w
  change Calls Try.prog _ _ w fun e w' => e = .returned (.tuple #[.agg #[.int .i64 0, .string ⟨#[]⟩, .string ⟨#[]⟩], .int .i64 16]) ∧ Below w.heap.size w w' at ht
  go_enter Try.func44, Try.ntmps44
  go_wp2_with fail
  refine ht.mono ?_
  rintro e w1 ⟨rfl, hb⟩
  have B1 := Hd.mk hb
  clear hb ht
  go_wp2_with fail
  go_ret
  exact ⟨rfl, B1.out.alloc B1.out.size _⟩
theorem scommit_no (h : StAt w p b k odd none) : Calls Try.prog 44 #[.pointer (some ⟨p, 0, none⟩)] w fun e w' => e = .returned (.int .i64 8) ∧ Below w.heap.size w w' := by
  have ht := stake_no h
  change Calls Try.prog _ _ w fun e w' => e = .returned (.tuple #[.agg #[.int .i64 0, .string ⟨#[]⟩, .string ⟨#[]⟩], .int .i64 8]) ∧ Below w.heap.size w w' at ht
  clear h
  go_enter Try.func44, Try.ntmps44
  go_wp2_with fail
  refine ht.mono ?_
  rintro e w1 ⟨rfl, hb⟩
  have B1 := Hd.mk hb
  clear hb ht
  go_wp2_with fail
  go_ret
  exact ⟨rfl, B1.out.alloc B1.out.size _⟩
end
end Go.Proofs.Ytkdakmddlkgjkaa
