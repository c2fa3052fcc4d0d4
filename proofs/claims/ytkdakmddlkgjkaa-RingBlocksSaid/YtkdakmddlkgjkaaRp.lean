import Derived.Test.YtkdakmddlkgjkaaRg3
open Go.RowKit Go.Lib
namespace Go.Proofs.Ytkdakmddlkgjkaa
set_option maxRecDepth 100000
open Sha
/-! The reference's numbers in bytes: Put, for the widths 1 and 4. -/
theorem rwide_c (k : Nat) (hk : k = 1 ∨ k = 4) (w : World) : Calls Try.prog 81 #[.int .i64 (k : Int)] w fun e w' => e = .returned (.bool true) ∧ w' = w := by
  rcases hk with rfl | rfl
  all_goals
    go_enter Try.func81, Try.ntmps81
    go_wp2
    go_ret
    exact ⟨rfl, rfl⟩
theorem le_take_succ (n : Int) (k j : Nat) (h : j < k) : (le n k).take (j + 1) = (le n k).take j ++ [UInt8.ofNat (n / 2 ^ (8 * j) % 256).toNat] := by
  rw [List.take_succ_eq_append_getElem (by rw [le_len]; exact h), le_get]
theorem byte_of (m : Int) (b : UInt8) (hb : b = UInt8.ofNat (m % 256).toNat) : m % 256 = bn b := by
  rw [hb]; unfold bn
  rw [UInt8.toNat_ofNat']
  have := Int.emod_nonneg m (show (256 : Int) ≠ 0 by decide)
  have := Int.emod_lt_of_pos m (show (0 : Int) < 256 by decide)
  omega
theorem div_succ (n : Int) (j : Nat) : n / 2 ^ (8 * (j + 1)) = n / 2 ^ (8 * j) / 256 := by
  rw [Nat.mul_add, Int.pow_add, ← Int.ediv_ediv_of_nonneg (Int.le_of_lt (Int.pow_pos (by decide)))]
  rfl
set_option maxHeartbeats 1000000 in
theorem bput1 (n : Int) (A : List UInt8) (hA : le n 1 = A) (hf : 0 ≤ n ∧ n < 256) (w : World) :
    Calls Try.prog 54 #[.int .i64 n, .int .i64 1] w fun e w' => e = .returned (.tuple #[.string ⟨A.toArray⟩, .int .i64 0]) ∧ Below w.heap.size w w' := by
  obtain ⟨h0, hp⟩ := hf
  subst hA
  obtain ⟨k, hk⟩ : ∃ k : Nat, k = 1 := ⟨_, rfl⟩
  have HKV := Hd.mk hk
  rw [← hk]
  have hnm : ¬ 255 < n := by omega
  have hn64 : n < 18446744073709551616 := by omega
  have hn0 : ¬ n < 0 := by omega
  clear hp hk
  go_enter Try.func54, Try.ntmps54
  go_wp2_with fail
  refine (rwide_c 1 (by decide) w).mono ?_
  rintro e w1 ⟨rfl, rfl⟩
  have hb0 : Hd (∀ o, Below w1.heap.size w1 (w1.alloc o)) := ⟨fun o => (Below.refl _ _).alloc (Nat.le_refl _) o⟩
  go_wp2_with fail
  have hu0 : n % 18446744073709551616 = n := by omega
  go_loopw [7, 8, 9] (fun b u i wr => ∃ j : Nat, i = .int .i64 j ∧ j ≤ k ∧ Hd (OwnB wr w1.heap.size b ((le n k).take j)) ∧ u = .int .u64 (n / 2 ^ (8 * j)) ∧ Hd (Below w1.heap.size w1 wr)) (fun _ _ i _ => k - (intOf i).toNat)
  case atStart => exact ⟨0, rfl, Nat.zero_le _, ⟨OwnB.nil _ _⟩, by simp, ⟨hb0.out _⟩⟩
  case round =>
    clear hb0 hn0 hnm hu0
    obtain ⟨j, rfl, hj, HO, rfl, HB⟩ := hrel
    by_cases hlt : j < k
    · have hlk : (j : Int) < 1 := by have := HKV.out; omega
      have hkv : k ≤ 4 := by have := HKV.out; omega
      obtain ⟨b, hb⟩ : ∃ b : UInt8, b = UInt8.ofNat (n / 2 ^ (8 * j) % 256).toNat := ⟨_, rfl⟩
      have HBE := Hd.mk hb
      obtain ⟨u, hu⟩ : ∃ u : Int, n / 2 ^ (8 * j) = u := ⟨_, rfl⟩
      have hu0 : 0 ≤ u := by rw [← hu]; exact Int.ediv_nonneg h0 (Int.le_of_lt (Int.pow_pos (by decide)))
      have hu1 : u < 18446744073709551616 := by
        have := Int.ediv_le_self (2 ^ (8 * j)) h0
        rw [hu] at this
        omega
      have HU := Hd.mk hu
      have HE : Hd (u % 256 % 256 = (b.toNat : Int)) := ⟨by have := byte_of _ _ hb; rw [hu] at this; unfold bn at this; omega⟩
      have HE2 : Hd (u % 256 = (b.toNat : Int)) := ⟨by have := byte_of _ _ hb; rw [hu] at this; exact this⟩
      rw [hu]
      clear hb hu
      have HLN : Hd (((le n k).take j).length ≤ 4) := ⟨by rw [List.length_take, le_len]; omega⟩
      have hz := HB.out.size
      go_wp2_with (first
            | ((with_reducible refine wpList_plain rfl fun K hK => W_buildB 1 [.tmp 38] [b] ?hq (hK _ _ ?_)); (case hq => exact ⟨congrArg (fun z => [Value.int .u8 z]) (by first | exact HE2.out | exact HE.out), rfl, by decide, by decide⟩))
            | ((with_reducible refine wpList_plain rfl fun K hK => W_appB (.tmp 35) (.tmp 39) wr.heap.size 1 [b] (0, 0) [] (HO.out.alloc _) ?hp fun v' w' h2 h3 h4 => hK _ _ ?_); (case hp => exact ⟨rfl, rfl, blk_new _ _ _ _ _ rfl, by have := HLN.out; simp only [List.length_cons, List.length_nil]; omega, by rw [sz_alloc]; omega⟩); have H2 := Hd.mk h2; have H3 := Hd.mk h3; clear h2 h3 h4))
      go_roundw
      case rel =>
        refine ⟨j + 1, by go_num, hlt, ⟨?_⟩, ?_, ⟨Below.app (HB.out.alloc (by omega) _) H3.out (HO.out.alloc _) (by rw [sz_alloc]; omega) (Nat.le_refl _)⟩⟩
        · rw [le_take_succ n k j hlt, ← HBE.out]
          exact H2.out
        · rw [div_succ, HU.out]
      case measure => simp [intOf]; omega
    · have hjk : j = k := by omega
      have hlk : ¬ (j : Int) < 1 := by have := HKV.out; omega
      have hv := HO.out
      rw [hjk, List.take_of_length_le (by rw [le_len]; exact Nat.le_refl _)] at hv
      have hst := run_strof 38 hv Try.underlying38 9 Try.underlying9
      rw [hjk] at hlk ⊢
      clear hv hjk
      go_wp2
      go_ret2
      exact ⟨rfl, HB.out⟩
set_option maxHeartbeats 1000000 in
theorem bput4 (n : Int) (A : List UInt8) (hA : le n 4 = A) (hf : 0 ≤ n ∧ n < 4294967296) (w : World) :
    Calls Try.prog 54 #[.int .i64 n, .int .i64 4] w fun e w' => e = .returned (.tuple #[.string ⟨A.toArray⟩, .int .i64 0]) ∧ Below w.heap.size w w' := by
  obtain ⟨h0, hp⟩ := hf
  subst hA
  obtain ⟨k, hk⟩ : ∃ k : Nat, k = 4 := ⟨_, rfl⟩
  have HKV := Hd.mk hk
  rw [← hk]
  have hnm : ¬ 4294967295 < n := by omega
  have hn64 : n < 18446744073709551616 := by omega
  have hn0 : ¬ n < 0 := by omega
  clear hp hk
  go_enter Try.func54, Try.ntmps54
  go_wp2_with fail
  refine (rwide_c 4 (by decide) w).mono ?_
  rintro e w1 ⟨rfl, rfl⟩
  have hb0 : Hd (∀ o, Below w1.heap.size w1 (w1.alloc o)) := ⟨fun o => (Below.refl _ _).alloc (Nat.le_refl _) o⟩
  go_wp2_with fail
  have hu0 : n % 18446744073709551616 = n := by omega
  go_loopw [7, 8, 9] (fun b u i wr => ∃ j : Nat, i = .int .i64 j ∧ j ≤ k ∧ Hd (OwnB wr w1.heap.size b ((le n k).take j)) ∧ u = .int .u64 (n / 2 ^ (8 * j)) ∧ Hd (Below w1.heap.size w1 wr)) (fun _ _ i _ => k - (intOf i).toNat)
  case atStart => exact ⟨0, rfl, Nat.zero_le _, ⟨OwnB.nil _ _⟩, by simp, ⟨hb0.out _⟩⟩
  case round =>
    clear hb0 hn0 hnm hu0
    obtain ⟨j, rfl, hj, HO, rfl, HB⟩ := hrel
    by_cases hlt : j < k
    · have hlk : (j : Int) < 4 := by have := HKV.out; omega
      have hkv : k ≤ 4 := by have := HKV.out; omega
      obtain ⟨b, hb⟩ : ∃ b : UInt8, b = UInt8.ofNat (n / 2 ^ (8 * j) % 256).toNat := ⟨_, rfl⟩
      have HBE := Hd.mk hb
      obtain ⟨u, hu⟩ : ∃ u : Int, n / 2 ^ (8 * j) = u := ⟨_, rfl⟩
      have hu0 : 0 ≤ u := by rw [← hu]; exact Int.ediv_nonneg h0 (Int.le_of_lt (Int.pow_pos (by decide)))
      have hu1 : u < 18446744073709551616 := by
        have := Int.ediv_le_self (2 ^ (8 * j)) h0
        rw [hu] at this
        omega
      have HU := Hd.mk hu
      have HE : Hd (u % 256 % 256 = (b.toNat : Int)) := ⟨by have := byte_of _ _ hb; rw [hu] at this; unfold bn at this; omega⟩
      have HE2 : Hd (u % 256 = (b.toNat : Int)) := ⟨by have := byte_of _ _ hb; rw [hu] at this; exact this⟩
      rw [hu]
      clear hb hu
      have HLN : Hd (((le n k).take j).length ≤ 4) := ⟨by rw [List.length_take, le_len]; omega⟩
      have hz := HB.out.size
      go_wp2_with (first
            | ((with_reducible refine wpList_plain rfl fun K hK => W_buildB 1 [.tmp 38] [b] ?hq (hK _ _ ?_)); (case hq => exact ⟨congrArg (fun z => [Value.int .u8 z]) (by first | exact HE2.out | exact HE.out), rfl, by decide, by decide⟩))
            | ((with_reducible refine wpList_plain rfl fun K hK => W_appB (.tmp 35) (.tmp 39) wr.heap.size 1 [b] (0, 0) [] (HO.out.alloc _) ?hp fun v' w' h2 h3 h4 => hK _ _ ?_); (case hp => exact ⟨rfl, rfl, blk_new _ _ _ _ _ rfl, by have := HLN.out; simp only [List.length_cons, List.length_nil]; omega, by rw [sz_alloc]; omega⟩); have H2 := Hd.mk h2; have H3 := Hd.mk h3; clear h2 h3 h4))
      go_roundw
      case rel =>
        refine ⟨j + 1, by go_num, hlt, ⟨?_⟩, ?_, ⟨Below.app (HB.out.alloc (by omega) _) H3.out (HO.out.alloc _) (by rw [sz_alloc]; omega) (Nat.le_refl _)⟩⟩
        · rw [le_take_succ n k j hlt, ← HBE.out]
          exact H2.out
        · rw [div_succ, HU.out]
      case measure => simp [intOf]; omega
    · have hjk : j = k := by omega
      have hlk : ¬ (j : Int) < 4 := by have := HKV.out; omega
      have hv := HO.out
      rw [hjk, List.take_of_length_le (by rw [le_len]; exact Nat.le_refl _)] at hv
      have hst := run_strof 38 hv Try.underlying38 9 Try.underlying9
      rw [hjk] at hlk ⊢
      clear hv hjk
      go_wp2
      go_ret2
      exact ⟨rfl, HB.out⟩
end Go.Proofs.Ytkdakmddlkgjkaa
