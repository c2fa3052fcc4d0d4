/- The law RingBlocks is proved as it was given (Rows.RingBlocksSaid): for every entry and every bytes the call returns true, and the arguments read behind it as they read before. No condition. -/
import Derived.Test.YtkdakmddlkgjkaaFrame
import Derived.Test.YtkdakmddlkgjkaaBlk
namespace Go.Proofs.Ytkdakmddlkgjkaa
set_option maxRecDepth 100000
open Go.ChangeShapes Go.WideShapes Go.ChangeAt Go.RowKit
open Go.ChangeMaps (open_string)
set_option maxRecDepth 100000 in
theorem blocks_lifted (os : Os) (started : os.Started) (H : Type) (enc : TypeId × Value → H) :
    ReturnsInHanded {} Try.checked os 3 .any (Rows.ringBlocksSpec.pre6 enc Try.prog Try.f3 Rows.ringBlocksRow.domain false) (Rows.ringBlocksSpec.post enc Try.prog Try.f3 false true false false) := by
  refine returnsInHanded_of_change (C := Try.checked) fr_own started (by kernel_rfl) Try.func3
    (ChangeSpec.witness6 (enc := enc) (C := Try.checked) false ⟨#[], #[.agg #[.int .i64 0, .int .i64 0, .int .i64 0, .int .i64 0, .string ⟨#[]⟩], .string ⟨#[]⟩], []⟩ 8 (by kernel_rfl) (by kernel_rfl) (by kernel_rfl) (by kernel_rfl)) ?_
  intro W base args ds gs before hval0 hW _ _
  have hval : ∀ (j : Nat) t v, Try.f3.params[j]? = some t → args[j]? = some v → Value.okWide Try.prog W .any base t v := hval0
  obtain ⟨p, hA2⟩ : ∃ p, DataW.TrodAll enc Try.prog W 0 (fun _ => true) true Try.f3.params.toList args.toList ds p := by
    obtain ⟨p, q, hA, _⟩ := hW
    exact ⟨p, hA⟩
  rw [Try.params3] at hA2 hval
  obtain ⟨v0, v1, d0, d1, p0, p1, rfl, rfl, _, h0, h1⟩ := trodAll_two hA2
  obtain ⟨k, n, sl, sz, s, rfl, hs⟩ := fr_ent (enc := enc) Try.underlying23 (by kernel_rfl) (by kernel_rfl) (by kernel_rfl) (hval 0 23 v0 rfl rfl) h0
  obtain ⟨b, rfl, _, _, _⟩ := open_string Try.underlying9 (hval 1 9 v1 rfl rfl) h1
  refine (blocks_c k n sl sz s b W).mono fun e W' ⟨he, hB⟩ => ⟨_, he, fr_post rfl (by kernel_rfl) ⟨rfl, rfl, rfl⟩ ?_ hW hB⟩
  rw [Try.params3]
  intro t ht
  simp only [List.mem_cons, List.not_mem_nil, or_false] at ht
  rcases ht with rfl | rfl
  · exact ⟨by kernel_rfl, of_decide_eq_true (by kernel_rfl)⟩
  · exact ⟨by kernel_rfl, of_decide_eq_true (by kernel_rfl)⟩
theorem blocks_holds : Rows.RingBlocksSaid :=
  OpenClaim.holds_of_wide 3 Try.f3 rfl rfl rfl rfl rfl rfl rfl ⟨rfl, rfl, rfl, rfl, rfl⟩ rfl rfl rfl rfl rfl (by kernel_rfl) Try.func3 (by kernel_rfl)
    (of_decide_eq_true (by kernel_rfl)) (by unfold Func.isWrapper; first | (rw [if_pos (by decide +kernel)]; kernel_rfl) | (rw [if_neg (by decide +kernel)]; exact ⟨rfl, rfl⟩))
    (fun os started H enc _ => blocks_lifted os started H enc)
#print axioms blocks_holds
end Go.Proofs.Ytkdakmddlkgjkaa
