/- The law RingRow is proved as it was given (Rows.RingRowSaid): for every number and byte the call returns true, and the arguments read behind it as they read before. No condition. -/
import Derived.Test.YtkdakmddlkgjkaaFrame
import Derived.Test.YtkdakmddlkgjkaaRow
namespace Go.Proofs.Ytkdakmddlkgjkaa
set_option maxRecDepth 100000
open Go.ChangeShapes Go.WideShapes Go.ChangeAt Go.RowKit
set_option maxRecDepth 100000 in
theorem row_lifted (os : Os) (started : os.Started) (H : Type) (enc : TypeId × Value → H) :
    ReturnsInHanded {} Try.checked os 6 .any (Rows.ringRowSpec.pre6 enc Try.prog Try.f6 Rows.ringRowRow.domain false) (Rows.ringRowSpec.post enc Try.prog Try.f6 false true false false) := by
  refine returnsInHanded_of_change (C := Try.checked) fr_own started (by kernel_rfl) Try.func6
    (ChangeSpec.witness6 (enc := enc) (C := Try.checked) false ⟨#[], #[.int .u8 0, .int .u8 0], []⟩ 8 (by kernel_rfl) (by kernel_rfl) (by kernel_rfl) (by kernel_rfl)) ?_
  intro W base args ds gs before hval0 hW _ _
  have hval : ∀ (j : Nat) t v, Try.f6.params[j]? = some t → args[j]? = some v → Value.okWide Try.prog W .any base t v := hval0
  obtain ⟨p, hA2⟩ : ∃ p, DataW.TrodAll enc Try.prog W 0 (fun _ => true) true Try.f6.params.toList args.toList ds p := by
    obtain ⟨p, q, hA, _⟩ := hW
    exact ⟨p, hA⟩
  rw [Try.params6] at hA2 hval
  obtain ⟨v0, v1, d0, d1, p0, p1, rfl, rfl, _, h0, h1⟩ := trodAll_two hA2
  obtain ⟨n, rfl, _, _, wn⟩ := open_int Try.underlying5 (hval 0 5 v0 rfl rfl) h0
  obtain ⟨m, rfl, _, _, wm⟩ := open_int Try.underlying5 (hval 1 5 v1 rfl rfl) h1
  have hn : 0 ≤ n ∧ n ≤ 255 := by simpa [Lit.wf, IntKind.min, IntKind.max, IntKind.signed, IntKind.bits] using wn
  have hm : 0 ≤ m ∧ m ≤ 255 := by simpa [Lit.wf, IntKind.min, IntKind.max, IntKind.signed, IntKind.bits] using wm
  obtain ⟨c, hc⟩ : ∃ c : UInt8, bn c = m := ⟨UInt8.ofNat m.toNat, by unfold bn; rw [UInt8.toNat_ofNat']; omega⟩
  subst hc
  refine (row_c n c hn W).mono fun e W' ⟨he, hB⟩ => ⟨_, he, fr_post rfl (by kernel_rfl) ⟨rfl, rfl, rfl⟩ ?_ hW hB⟩
  rw [Try.params6]
  intro t ht
  simp only [List.mem_cons, List.not_mem_nil, or_false] at ht
  rcases ht with rfl | rfl
  · exact ⟨by kernel_rfl, of_decide_eq_true (by kernel_rfl)⟩
  · exact ⟨by kernel_rfl, of_decide_eq_true (by kernel_rfl)⟩
theorem row_holds : Rows.RingRowSaid :=
  OpenClaim.holds_of_wide 6 Try.f6 rfl rfl rfl rfl rfl rfl rfl ⟨rfl, rfl, rfl, rfl, rfl⟩ rfl rfl rfl rfl rfl (by kernel_rfl) Try.func6 (by kernel_rfl)
    (of_decide_eq_true (by kernel_rfl)) (by unfold Func.isWrapper; first | (rw [if_pos (by decide +kernel)]; kernel_rfl) | (rw [if_neg (by decide +kernel)]; exact ⟨rfl, rfl⟩))
    (fun os started H enc _ => row_lifted os started H enc)
#print axioms row_holds
end Go.Proofs.Ytkdakmddlkgjkaa
