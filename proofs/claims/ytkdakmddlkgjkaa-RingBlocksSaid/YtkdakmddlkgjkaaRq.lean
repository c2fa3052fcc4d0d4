import Derived.Test.YtkdakmddlkgjkaaRp
open Go.RowKit Go.Lib
namespace Go.Proofs.Ytkdakmddlkgjkaa
set_option maxRecDepth 100000
open Sha
/-! The reference's Get, for the widths 1 and 4, and Zero. -/
theorem num_cons (l : List UInt8) (a m : Nat) (h : a < l.length) : num l a (m + 1) = (l.getD a 0).toNat + 256 * num l (a + 1) m := by
  unfold num
  rw [List.drop_eq_getElem_cons h, List.take_succ_cons, gn, List.getD_eq_getElem?_getD, List.getElem?_eq_getElem h]
  rfl
set_option maxHeartbeats 1000000 in
theorem bget_c (l : List UInt8) (a k : Nat) (hk : k = 1 ∨ k = 4) (hl : a + k ≤ l.length) (hb : l.length < 9223372036854775808) (w : World) :
    Calls Try.prog 58 #[.string ⟨l.toArray⟩, .int .i64 (a : Int), .int .i64 (k : Int)] w fun e w' => e = .returned (.tuple #[.int .i64 ((num l a k : Nat) : Int), .int .i64 0]) ∧ w = w' := by
  have h2 : 1 ≤ k ∧ k ≤ 4 := by rcases hk with rfl | rfl <;> decide
  obtain ⟨h3, h4⟩ := h2
  have t0 : (0 : Int) ≤ (a : Int) := by omega
  have t1 : ¬ (l.length : Int) < (a : Int) := by omega
  have t2 : ¬ (l.length : Int) - (a : Int) < (k : Int) := by omega
  have HK := Hd.mk hk
  clear hk
  go_enter Try.func58, Try.ntmps58
  go_wp2_with fail
  refine (rwide_c k HK.out w).mono ?_
  rintro e w1 ⟨rfl, rfl⟩
  go_wp2_with fail
  clear t0 t1 t2
  go_loop [8, 9] (fun u i => ∃ j : Nat, j ≤ k ∧ i = .int .i64 ((j : Int) - 1) ∧ u = .int .u64 ((num l (a + j) (k - j) : Nat) : Int)) (fun _ i => (intOf i + 1).toNat)
  case atStart => exact ⟨k, Nat.le_refl _, rfl, by rw [Nat.sub_self]; rfl⟩
  case round =>
    obtain ⟨j, hj, rfl, rfl⟩ := hrel
    by_cases hlt : 0 < j
    · obtain ⟨q, rfl⟩ : ∃ q, j = q + 1 := ⟨j - 1, by omega⟩
      have hq : ((q + 1 : Nat) : Int) - 1 = (q : Int) := by omega
      rw [hq]
      clear hq
      obtain ⟨x, hx⟩ : ∃ x, x = l.getD (a + q) 0 := ⟨_, rfl⟩
      have i1 : (Instr.index 9 (.string ⟨l.toArray⟩) (.int .i64 ((a : Int) + (q : Int)))).run Try.prog w1 = .ok (.int .u8 (bn x)) w1 := by
        have := ix_str l (a + q) (by omega) x hx w1
        rwa [Int.natCast_add] at this
      obtain ⟨u, hu⟩ : ∃ u, num l (a + (q + 1)) (k - (q + 1)) = u := ⟨_, rfl⟩
      obtain ⟨v, hv⟩ : ∃ v, num l (a + q) (k - q) = v := ⟨_, rfl⟩
      have hs := num_cons l (a + q) (k - (q + 1)) (by omega)
      have hlt2 := num_lt l (a + (q + 1)) (k - (q + 1))
      have hp : 2 ^ (8 * (k - (q + 1))) ≤ 2 ^ 24 := Nat.pow_le_pow_right (by decide) (by omega)
      rw [show k - (q + 1) + 1 = k - q by omega, show a + q + 1 = a + (q + 1) by omega, ← hx, hu, hv] at hs
      rw [hu] at hlt2 ⊢
      have b0 : 0 ≤ bn x := by unfold bn; omega
      have b1 : bn x < 256 := by have := x.toNat_lt; unfold bn; omega
      have hu2 : (u : Int) < 16777216 := by omega
      have HS : Hd ((v : Int) = 256 * (u : Int) + bn x) := ⟨by unfold bn; omega⟩
      have HV := Hd.mk hv
      clear hx hu hv hs hlt2 hp
      go_wp2_with fail
      go_round
      case rel => exact ⟨q, by omega, by go_num, by rw [HV.out, HS.out]⟩
      case measure => simp [intOf]
    · have hj0 : j = 0 := by omega
      subst hj0
      have hn1 : num l (a + 0) (k - 0) < 4294967296 := by
        have h1 := num_lt l (a + 0) (k - 0)
        have h2 : 2 ^ (8 * (k - 0)) ≤ 2 ^ 32 := Nat.pow_le_pow_right (by decide) (by omega)
        omega
      obtain ⟨u, hu⟩ : ∃ u, num l (a + 0) (k - 0) = u := ⟨_, rfl⟩
      rw [hu] at hn1 ⊢
      have hw : wrap64 (u : Int) = (u : Int) := by unfold wrap64; omega
      have HU : Hd (num l a k = u) := ⟨hu⟩
      clear hu
      go_wp2_with fail
      go_ret2
      refine ⟨?_, rfl⟩
      rw [HU.out]
      first | rfl | (rw [hw]) | (simp only [hw]) | trace_state
theorem bzero_c (w : World) : Calls Try.prog 56 #[] w fun e w' => e = .returned (.string ⟨(List.replicate 64 (0 : UInt8)).toArray⟩) ∧ Below w.heap.size w w' := by
  obtain ⟨Z, hZ⟩ : ∃ Z, List.replicate 64 (0 : UInt8) = Z := ⟨_, rfl⟩
  rw [hZ]
  have HZ := Hd.mk hZ
  clear hZ
  go_enter Try.func56, Try.ntmps56
  go_wp2_with (at_make; refine wpList_plain rfl fun K hK => ?_; refine W_makeB 64 _ _ ⟨⟨_, rfl⟩, ⟨_, rfl⟩, by decide⟩ ?_; intro w4 h1 h2; refine hK _ _ ?_; have HB4 : Hd (Below w.heap.size w w4) := ⟨(Below.refl _ _).grown h2 (Nat.le_refl _) (by simp)⟩; rw [HZ.out] at h1; have hcv : (convert 38 9 (.slice (some ⟨w.heap.size, 0, none⟩) 64 64)).run Try.prog w4 = .ok (.string ⟨Z.toArray⟩) w4 := (run_strof 38 h1 Try.underlying38 9 Try.underlying9); clear h1 h2 hK)
  go_ret
  exact ⟨rfl, HB4.out⟩
end Go.Proofs.Ytkdakmddlkgjkaa
