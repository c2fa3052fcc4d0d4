/- The law RingNil is proved as it was given (Rows.RingNilSaid): for every entry the call returns true, and the argument reads behind it as it read before. No condition. -/
import Derived.Test.YtkdakmddlkgjkaaFrame
import Derived.Test.YtkdakmddlkgjkaaNil
namespace Go.Proofs.Ytkdakmddlkgjkaa
set_option maxRecDepth 100000
open Go.ChangeShapes Go.WideShapes Go.ChangeAt Go.RowKit
set_option maxRecDepth 100000 in
theorem nil_lifted (os : Os) (started : os.Started) (H : Type) (enc : TypeId × Value → H) :
    ReturnsInHanded {} Try.checked os 5 .any (Rows.ringNilSpec.pre6 enc Try.prog Try.f5 Rows.ringNilRow.domain false) (Rows.ringNilSpec.post enc Try.prog Try.f5 false true false false) := by
  refine returnsInHanded_of_change (C := Try.checked) fr_own started (by kernel_rfl) Try.func5
    (ChangeSpec.witness6 (enc := enc) (C := Try.checked) false ⟨#[], #[.agg #[.int .i64 0, .int .i64 0, .int .i64 0, .int .i64 0, .string ⟨#[]⟩]], []⟩ 8 (by kernel_rfl) (by kernel_rfl) (by kernel_rfl) (by kernel_rfl)) ?_
  intro W base args ds gs before hval0 hW _ _
  have hval : ∀ (j : Nat) t v, Try.f5.params[j]? = some t → args[j]? = some v → Value.okWide Try.prog W .any base t v := hval0
  obtain ⟨p, hA2⟩ : ∃ p, DataW.TrodAll enc Try.prog W 0 (fun _ => true) true Try.f5.params.toList args.toList ds p := by
    obtain ⟨p, q, hA, _⟩ := hW
    exact ⟨p, hA⟩
  rw [Try.params5] at hA2 hval
  obtain ⟨v0, d0, rfl, rfl, h0⟩ := trodAll_one hA2
  obtain ⟨k, n, sl, sz, s, rfl, hs⟩ := fr_ent (enc := enc) Try.underlying23 (by kernel_rfl) (by kernel_rfl) (by kernel_rfl) (hval 0 23 v0 rfl rfl) h0
  refine (nil_c k n sl sz s W).mono fun e W' ⟨he, hB⟩ => ⟨_, he, fr_post rfl (by kernel_rfl) ⟨rfl, rfl, rfl⟩ ?_ hW hB⟩
  rw [Try.params5]
  intro t ht
  simp only [List.mem_cons, List.not_mem_nil, or_false] at ht
  subst ht
  exact ⟨by kernel_rfl, of_decide_eq_true (by kernel_rfl)⟩
theorem nil_holds : Rows.RingNilSaid :=
  OpenClaim.holds_of_wide 5 Try.f5 rfl rfl rfl rfl rfl rfl rfl ⟨rfl, rfl, rfl, rfl, rfl⟩ rfl rfl rfl rfl rfl (by kernel_rfl) Try.func5 (by kernel_rfl)
    (of_decide_eq_true (by kernel_rfl)) (by unfold Func.isWrapper; first | (rw [if_pos (by decide +kernel)]; kernel_rfl) | (rw [if_neg (by decide +kernel)]; exact ⟨rfl, rfl⟩))
    (fun os started H enc _ => nil_lifted os started H enc)
#print axioms nil_holds
end Go.Proofs.Ytkdakmddlkgjkaa
