import Derived.Outline
import Derived.Laws.StructEq
import Derived.Test.YtkdakmddlkgjkaaRg8
open Go.RowKit Go.Lib
namespace Go.Proofs.Ytkdakmddlkgjkaa
set_option maxRecDepth 100000
/-! The law's own functions, and what must come of fixed calls. -/
theorem gd_ent : Try.prog.eqGuardType Try.prog.depth 28 = false := by kernel_rfl
theorem gd_ref : Try.prog.eqGuardType Try.prog.depth 23 = false := by kernel_rfl
theorem list_beq (s s' : List UInt8) : (({ data := s.toArray } : ByteArray).toList == ({ data := s'.toArray } : ByteArray).toList) = decide (s = s') := by
  rw [ByteArray.toList_eq, ByteArray.toList_eq]
  show (s == s') = _
  by_cases h : s = s'
  · simp [h]
  · simp [h]
theorem eq_ent (k n sl sz k' n' sl' sz' : Int) (s s' : List UInt8) (w : World) :
    (binOp .eql 28 (.agg #[.int .i64 k, .int .i64 n, .int .i64 sl, .int .i64 sz, .string ⟨s.toArray⟩]) (.agg #[.int .i64 k', .int .i64 n', .int .i64 sl', .int .i64 sz', .string ⟨s'.toArray⟩])).run Try.prog w =
      .ok (.bool (decide (En.mk k n sl sz s = En.mk k' n' sl' sz' s'))) w := by
  have hS : Try.prog.underlying 28 = some (.struct (Try.prog.fieldsOf 28)) := by kernel_rfl
  have hp : Try.prog.stoodInHeld 28 = false := by kernel_rfl
  rw [run_eql_struct, show (10000 : Nat) = 9999 + 1 from rfl, run_equalIn_agg w 9999 28 _ _ hS hp]
  simp only [Program.fieldsOf, Try.underlying28]
  go_simp
  by_cases h1 : k = k' <;> by_cases h2 : n = n' <;> by_cases h3 : sl = sl' <;> by_cases h4 : sz = sz' <;> by_cases h5 : s = s' <;> simp [h1, h2, h3, h4, h5]
theorem ne_ent (k n sl sz k' n' sl' sz' : Int) (s s' : List UInt8) (w : World) :
    (binOp .neq 28 (.agg #[.int .i64 k, .int .i64 n, .int .i64 sl, .int .i64 sz, .string ⟨s.toArray⟩]) (.agg #[.int .i64 k', .int .i64 n', .int .i64 sl', .int .i64 sz', .string ⟨s'.toArray⟩])).run Try.prog w =
      .ok (.bool (!decide (En.mk k n sl sz s = En.mk k' n' sl' sz' s'))) w := by
  have hS : Try.prog.underlying 28 = some (.struct (Try.prog.fieldsOf 28)) := by kernel_rfl
  have hp : Try.prog.stoodInHeld 28 = false := by kernel_rfl
  rw [run_neq_struct, show (10000 : Nat) = 9999 + 1 from rfl, run_equalIn_agg w 9999 28 _ _ hS hp]
  simp only [Program.fieldsOf, Try.underlying28]
  go_simp
  by_cases h1 : k = k' <;> by_cases h2 : n = n' <;> by_cases h3 : sl = sl' <;> by_cases h4 : sz = sz' <;> by_cases h5 : s = s' <;> simp [h1, h2, h3, h4, h5]
theorem eq_ref (k n sl sz k' n' sl' sz' : Int) (s s' : List UInt8) (w : World) :
    (binOp .eql 23 (.agg #[.int .i64 k, .int .i64 n, .int .i64 sl, .int .i64 sz, .string ⟨s.toArray⟩]) (.agg #[.int .i64 k', .int .i64 n', .int .i64 sl', .int .i64 sz', .string ⟨s'.toArray⟩])).run Try.prog w =
      .ok (.bool (decide (En.mk k n sl sz s = En.mk k' n' sl' sz' s'))) w := by
  have hS : Try.prog.underlying 23 = some (.struct (Try.prog.fieldsOf 23)) := by kernel_rfl
  have hp : Try.prog.stoodInHeld 23 = false := by kernel_rfl
  rw [run_eql_struct, show (10000 : Nat) = 9999 + 1 from rfl, run_equalIn_agg w 9999 23 _ _ hS hp]
  simp only [Program.fieldsOf, Try.underlying23]
  go_simp
  by_cases h1 : k = k' <;> by_cases h2 : n = n' <;> by_cases h3 : sl = sl' <;> by_cases h4 : sz = sz' <;> by_cases h5 : s = s' <;> simp [h1, h2, h3, h4, h5]
theorem ne_ref (k n sl sz k' n' sl' sz' : Int) (s s' : List UInt8) (w : World) :
    (binOp .neq 23 (.agg #[.int .i64 k, .int .i64 n, .int .i64 sl, .int .i64 sz, .string ⟨s.toArray⟩]) (.agg #[.int .i64 k', .int .i64 n', .int .i64 sl', .int .i64 sz', .string ⟨s'.toArray⟩])).run Try.prog w =
      .ok (.bool (!decide (En.mk k n sl sz s = En.mk k' n' sl' sz' s'))) w := by
  have hS : Try.prog.underlying 23 = some (.struct (Try.prog.fieldsOf 23)) := by kernel_rfl
  have hp : Try.prog.stoodInHeld 23 = false := by kernel_rfl
  rw [run_neq_struct, show (10000 : Nat) = 9999 + 1 from rfl, run_equalIn_agg w 9999 23 _ _ hS hp]
  simp only [Program.fieldsOf, Try.underlying23]
  go_simp
  by_cases h1 : k = k' <;> by_cases h2 : n = n' <;> by_cases h3 : sl = sl' <;> by_cases h4 : sz = sz' <;> by_cases h5 : s = s' <;> simp [h1, h2, h3, h4, h5]
theorem sum_5 (c : UInt8) (w : World) : Calls Try.prog 25 #[.int .u8 (bn c)] w fun e w' => e = .returned (.string ⟨(List.replicate 32 c).toArray⟩) ∧ Below w.heap.size w w' := by
  obtain ⟨Z, hZ⟩ : ∃ Z : Nat → List UInt8, Z = fun j => List.replicate j c ++ List.replicate (32 - j) 0 := ⟨_, rfl⟩
  have hZl : ∀ j, j ≤ 32 → (Z j).length = 32 := by intro j hj; rw [hZ]; simp; omega
  have hZ0 : List.replicate 32 0 = Z 0 := by rw [hZ]; rfl
  have hZs : ∀ j, j < 32 → (Z j).set j c = Z (j + 1) := by
    intro j hj
    rw [hZ]
    simp only
    rw [List.set_append_right _ _ (by simp), show 32 - j = (32 - (j + 1)) + 1 by omega, List.replicate_succ]
    simp only [List.length_replicate, Nat.sub_self, List.set_cons_zero]
    rw [List.replicate_succ' (n := j), List.append_assoc]; rfl
  have hZe : Z 32 = List.replicate 32 c := by rw [hZ]; simp
  have HZ := Hd.mk hZe
  have HZL := Hd.mk hZl
  have HZ0 := Hd.mk hZ0
  have HZS := Hd.mk hZs
  rw [← HZ.out]
  clear hZ hZl hZ0 hZs hZe
  go_enter Try.func25, Try.ntmps25
  go_wp2_with (at_make; refine wpList_plain rfl fun K hK => ?_; refine W_makeB 32 _ _ ⟨⟨_, rfl⟩, ⟨_, rfl⟩, by decide⟩ ?_; intro w4 h1 h2; refine hK _ _ ?_; have HB4 : Hd (Below w.heap.size w w4) := ⟨(Below.refl _ _).grown h2 (Nat.le_refl _) (by simp)⟩; rw [HZ0.out] at h1; have HO4 := Hd.mk h1; clear h1 h2 hK)
  go_loopw [4] (fun i wr => ∃ j : Nat, i = .int .i64 (j : Int) ∧ j ≤ 32 ∧ Hd (OwnB wr w.heap.size (.slice (some ⟨w.heap.size, 0, none⟩) 32 32) (Z j)) ∧ Hd (Below w.heap.size w wr)) (fun i _ => 32 - (intOf i).toNat)
  case atStart => exact ⟨0, rfl, by omega, HO4, HB4⟩
  case round =>
    clear HO4 HB4
    obtain ⟨j, rfl, hj, HO, HB⟩ := hrel
    by_cases hlt : j < 32
    · have cf := (HO.out.at j (by rw [HZL.out j hj]; exact hlt)).2
      have cc := (HO.out.at j (by rw [HZL.out j hj]; exact hlt)).1
      go_wp2_with fail
      go_roundw
      case rel =>
        refine ⟨j + 1, by go_num, hlt, ⟨?_⟩, ⟨HB.out.setCell (p := ⟨w.heap.size, j, none⟩) (Nat.le_refl _) _⟩⟩
        rw [← HZS.out j hlt]
        exact HO.out.store j (by rw [HZL.out j hj]; exact hlt) c
      case measure => simp [intOf]; omega
    · have hj32 : j = 32 := by omega
      have hv : OwnB wr w.heap.size (.slice (some ⟨w.heap.size, 0, none⟩) 32 32) (Z 32) := by have h := HO.out; rw [show Z j = Z 32 by rw [hj32]] at h; exact h
      have hst := run_strof 38 hv Try.underlying38 9 Try.underlying9
      clear hv hj32
      go_wp2_with fail
      go_ret
      exact ⟨rfl, HB.out⟩
theorem given_c (k n sl sz : Int) (s : List UInt8) (w : World) : Calls Try.prog 15 #[.agg #[.int .i64 k, .int .i64 n, .int .i64 sl, .int .i64 sz, .string ⟨s.toArray⟩]] w fun e w' =>
    e = .returned (.agg #[.int .i64 k, .int .i64 n, .int .i64 sl, .int .i64 sz, .string ⟨s.toArray⟩]) ∧ Below w.heap.size w w' := by
  have hb : ∀ o o2, Below w.heap.size w ((w.alloc o).alloc o2) := fun o o2 => ((Below.refl _ _).alloc (Nat.le_refl _) o).alloc (by rw [sz_alloc]; omega) o2
  have HB := Hd.mk hb
  clear hb
  go_enter Try.func15, Try.ntmps15
  go_wp2_with fail
  refine bodyPost_ret (v := .agg #[.int .i64 k, .int .i64 n, .int .i64 sl, .int .i64 sz, .string ⟨s.toArray⟩]) (by simp [results, Try.results15, go_sem]) rfl ⟨rfl, HB.out _ _⟩
theorem taken_c (k n sl sz : Int) (s : List UInt8) (w : World) : Calls Try.prog 19 #[.agg #[.int .i64 k, .int .i64 n, .int .i64 sl, .int .i64 sz, .string ⟨s.toArray⟩]] w fun e w' =>
    e = .returned (.agg #[.int .i64 k, .int .i64 n, .int .i64 sl, .int .i64 sz, .string ⟨s.toArray⟩]) ∧ Below w.heap.size w w' := by
  have hb : ∀ o o2, Below w.heap.size w ((w.alloc o).alloc o2) := fun o o2 => ((Below.refl _ _).alloc (Nat.le_refl _) o).alloc (by rw [sz_alloc]; omega) o2
  have HB := Hd.mk hb
  clear hb
  go_enter Try.func19, Try.ntmps19
  go_wp2_with fail
  refine bodyPost_ret (v := .agg #[.int .i64 k, .int .i64 n, .int .i64 sl, .int .i64 sz, .string ⟨s.toArray⟩]) (by simp [results, Try.results19, go_sem]) rfl ⟨rfl, HB.out _ _⟩
/-! ### known -/
def kE : En := ⟨1, 0, 0, 5, List.replicate 32 7⟩
def kE1 : En := ⟨1, 1, 0, 5, List.replicate 32 7⟩
theorem k_scan : scan (Ds0 16) 8 = [] := by decide +kernel
theorem k_app : (app (Ds0 16) kE).1 = 0 ∧ (app (Ds0 16) kE).2.1 = kE1 := by decide +kernel
theorem k_disk : parse ((app (Ds0 16) kE).2.2.get 1) = some kE1 ∧ (app (Ds0 16) kE).2.2.off = false ∧ 1 < (app (Ds0 16) kE).2.2.L.length := by decide +kernel
end Go.Proofs.Ytkdakmddlkgjkaa
