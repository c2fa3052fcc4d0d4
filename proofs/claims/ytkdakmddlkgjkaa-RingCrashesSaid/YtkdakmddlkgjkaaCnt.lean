import Derived.Outline
import Derived.Test.YtkdakmddlkgjkaaBn
open Go.RowKit Go.Lib
namespace Go.Proofs.Ytkdakmddlkgjkaa
set_option maxRecDepth 100000
/-! A number below another one, of any number. -/
theorem count_c (a m : Int) (w : World) (ha : -9223372036854775808 ≤ a ∧ a ≤ 9223372036854775807) (hm : 0 < m) : Calls Try.prog 20 #[.int .i64 a, .int .i64 m] w fun e w' => e = .returned (.int .i64 ((if a < 0 then -(a + 1) else a) % m)) ∧ w = w' := by
  obtain ⟨ha1, ha2⟩ := ha
  by_cases h : a < 0
  · rw [if_pos h]
    have h0 : 0 ≤ -(a + 1) := by omega
    have e : -((a + 1).tmod m) = -(a + 1) % m := by rw [← Int.neg_tmod]; exact Int.tmod_eq_emod_of_nonneg h0
    have E := Hd.mk e
    clear e
    go_enter Try.func20, Try.ntmps20
    go_wp2_with fail
    go_ret
    exact ⟨congrArg (fun z => Ending.returned (.int .i64 z)) E.out, rfl⟩
  · rw [if_neg h]
    go_enter Try.func20, Try.ntmps20
    go_wp2_with fail
    go_ret
    exact ⟨rfl, rfl⟩
end Go.Proofs.Ytkdakmddlkgjkaa
