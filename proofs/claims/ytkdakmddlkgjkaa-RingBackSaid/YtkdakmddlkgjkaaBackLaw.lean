/- The law RingBack is proved as it was given (Rows.RingBackSaid): for every entry, place and byte the call returns true, and the arguments read behind it as they read before. No condition. -/
import Derived.Test.YtkdakmddlkgjkaaFrame
import Derived.Test.YtkdakmddlkgjkaaBack
namespace Go.Proofs.Ytkdakmddlkgjkaa
set_option maxRecDepth 100000
open Go.ChangeShapes Go.WideShapes Go.ChangeAt Go.RowKit
theorem back_c (k n sl sz at0 m : Int) (s : ByteArray) (ha : -9223372036854775808 ≤ at0 ∧ at0 ≤ 9223372036854775807) (hm : 0 ≤ m ∧ m ≤ 255) (w : World) :
    Calls Try.prog 4 #[.agg #[.int .i64 k, .int .i64 n, .int .i64 sl, .int .i64 sz, .string s], .int .i64 at0, .int .u8 m] w fun e w' => e = .returned (.bool true) ∧ Below w.heap.size w w' := by
  obtain ⟨l, hs⟩ : ∃ l : List UInt8, s = ⟨l.toArray⟩ := ⟨s.data.toList, rfl⟩
  subst hs
  by_cases h1 : 1000 < l.length
  · exact back_big k n sl sz at0 m l h1 w
  · by_cases hr : (En.mk k n sl sz l).right = true
    · obtain ⟨c, hc⟩ : ∃ c : UInt8, bn c = m := ⟨UInt8.ofNat m.toNat, by unfold bn; rw [UInt8.toNat_ofNat']; omega⟩
      subst hc
      exact back_ok k n sl sz at0 c l h1 hr ha w
    · exact back_bad k n sl sz at0 m l h1 (by simpa using hr) w
set_option maxRecDepth 100000 in
theorem back_lifted (os : Os) (started : os.Started) (H : Type) (enc : TypeId × Value → H) :
    ReturnsInHanded {} Try.checked os 4 .any (Rows.ringBackSpec.pre6 enc Try.prog Try.f4 Rows.ringBackRow.domain false) (Rows.ringBackSpec.post enc Try.prog Try.f4 false true false false) := by
  refine returnsInHanded_of_change (C := Try.checked) fr_own started (by kernel_rfl) Try.func4
    (ChangeSpec.witness6 (enc := enc) (C := Try.checked) false ⟨#[], #[.agg #[.int .i64 0, .int .i64 0, .int .i64 0, .int .i64 0, .string ⟨#[]⟩], .int .i64 0, .int .u8 0], []⟩ 8 (by kernel_rfl) (by kernel_rfl) (by kernel_rfl) (by kernel_rfl)) ?_
  intro W base args ds gs before hval0 hW _ _
  have hval : ∀ (j : Nat) t v, Try.f4.params[j]? = some t → args[j]? = some v → Value.okWide Try.prog W .any base t v := hval0
  obtain ⟨p, hA2⟩ : ∃ p, DataW.TrodAll enc Try.prog W 0 (fun _ => true) true Try.f4.params.toList args.toList ds p := by
    obtain ⟨p, q, hA, _⟩ := hW
    exact ⟨p, hA⟩
  rw [Try.params4] at hA2 hval
  obtain ⟨v0, v1, v2, d0, d1, d2, p0, p1, p2, rfl, rfl, _, h0, h1, h2⟩ := trodAll_three hA2
  obtain ⟨k, n, sl, sz, s, rfl, hs⟩ := fr_ent (enc := enc) Try.underlying23 (by kernel_rfl) (by kernel_rfl) (by kernel_rfl) (hval 0 23 v0 rfl rfl) h0
  obtain ⟨a, rfl, _, _, wa⟩ := open_int Try.underlying3 (hval 1 3 v1 rfl rfl) h1
  obtain ⟨m, rfl, _, _, wm⟩ := open_int Try.underlying5 (hval 2 5 v2 rfl rfl) h2
  have ha : -9223372036854775808 ≤ a ∧ a ≤ 9223372036854775807 := by simpa [Lit.wf, IntKind.min, IntKind.max, IntKind.signed, IntKind.bits] using wa
  have hm : 0 ≤ m ∧ m ≤ 255 := by simpa [Lit.wf, IntKind.min, IntKind.max, IntKind.signed, IntKind.bits] using wm
  refine (back_c k n sl sz a m s ha hm W).mono fun e W' ⟨he, hB⟩ => ⟨_, he, fr_post rfl (by kernel_rfl) ⟨rfl, rfl, rfl⟩ ?_ hW hB⟩
  rw [Try.params4]
  intro t ht
  simp only [List.mem_cons, List.not_mem_nil, or_false] at ht
  rcases ht with rfl | rfl | rfl
  · exact ⟨by kernel_rfl, of_decide_eq_true (by kernel_rfl)⟩
  · exact ⟨by kernel_rfl, of_decide_eq_true (by kernel_rfl)⟩
  · exact ⟨by kernel_rfl, of_decide_eq_true (by kernel_rfl)⟩
theorem back_holds : Rows.RingBackSaid :=
  OpenClaim.holds_of_wide 4 Try.f4 rfl rfl rfl rfl rfl rfl rfl ⟨rfl, rfl, rfl, rfl, rfl⟩ rfl rfl rfl rfl rfl (by kernel_rfl) Try.func4 (by kernel_rfl)
    (of_decide_eq_true (by kernel_rfl)) (by unfold Func.isWrapper; first | (rw [if_pos (by decide +kernel)]; kernel_rfl) | (rw [if_neg (by decide +kernel)]; exact ⟨rfl, rfl⟩))
    (fun os started H enc _ => back_lifted os started H enc)
#print axioms back_holds
end Go.Proofs.Ytkdakmddlkgjkaa
