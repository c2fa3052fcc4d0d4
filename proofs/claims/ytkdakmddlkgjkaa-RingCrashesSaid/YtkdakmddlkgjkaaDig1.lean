import Derived.WalkKit
import Derived.WalkLawsBesides
import Derived.WalkSpells
import Derived.Lib.Hide
import Derived.Deep.QuietTactic
import Derived.BigQuiet
import Derived.Test.YtkdakmddlkgjkaaChecked
import Derived.Test.YtkdakmddlkgjkaaShaGo
open Go.RowKit
namespace Go.Proofs.Ytkdakmddlkgjkaa
set_option maxRecDepth 100000
open Sha
theorem rot_and : ∀ n : Nat, n < 32 → 0 < n → bits .and .u64 (IntKind.u64.wrap (-(n : Int))) 31 = ((32 - n : Nat) : Int) := by decide +kernel
theorem ret_int {k : IntKind} {a b : Int} (h : a = b) : Ending.returned (.int k a) = .returned (.int k b) := by rw [h]
theorem rot_pure (x : UInt32) (n : Nat) (h0 : 0 < n) (h1 : n < 32) : bits .or .u32 (un x * 2 ^ (32 - n) % 4294967296) (un x / 2 ^ n) = un (rotr x (UInt32.ofNat n)) := by
  have e : (32 - n.toUInt32).toNat = 32 - n := by
    rw [UInt32.toNat_sub_of_le _ _ (by rw [UInt32.le_iff_toNat_le]; simp; omega)]; simp; omega
  have h2 := u_shl x (32 - n.toUInt32) (by omega)
  have e' : n.toUInt32.toNat = n := by simp; omega
  have h3 := u_shr x n.toUInt32 (by omega)
  rw [e] at h2
  rw [e'] at h3
  rw [h2, h3, u_or, rotr, UInt32.or_comm]
theorem rot_c (x : UInt32) (n : Nat) (w : World) (h0 : 0 < n) (h1 : n < 32) :
    Calls Try.prog 104 #[.int .u32 (un x), .int .i64 (-(n : Int))] w fun e w' => e = .returned (.int .u32 (un (rotr x (UInt32.ofNat n)))) ∧ w = w' := by
  have hb := rot_and n h1 h0
  have hw : IntKind.u64.wrap (32 - ((32 - n : Nat) : Int)) = (n : Int) := by unfold IntKind.wrap; simp only [IntKind.bits, IntKind.signed, Bool.false_and, Bool.false_eq_true, if_false]; omega
  have hp := rot_pure x n h0 h1
  go_enter Try.func104, Try.ntmps104
  go_wp2
  go_ret
  exact ⟨rfl, rfl⟩
theorem right_c (x : UInt32) (n : Nat) (w : World) (h0 : 0 < n) (h1 : n < 32) :
    Calls Try.prog 102 #[.int .u32 (un x), .int .i64 (n : Int)] w fun e w' => e = .returned (.int .u32 (un (rotr x (UInt32.ofNat n)))) ∧ w = w' := by
  have hn : ¬ ((n : Int) = 0) := by omega
  go_enter Try.func102, Try.ntmps102
  go_wp2_with (go_at_call 104; refine (rot_c _ _ _ h0 h1).mono ?_; rintro e w' ⟨rfl, rfl⟩)
  go_ret
  exact ⟨rfl, rfl⟩
def ror (x : UInt32) (i : Int) : UInt32 := rotr x (UInt32.ofNat i.toNat)
theorem right_i (x : UInt32) (i : Int) (w : World) (h0 : 0 < i) (h1 : i < 32) :
    Calls Try.prog 102 #[.int .u32 (un x), .int .i64 i] w fun e w' => e = .returned (.int .u32 (un (ror x i))) ∧ w = w' := by
  obtain ⟨n, rfl⟩ := Int.eq_ofNat_of_zero_le (show 0 ≤ i by omega)
  exact right_c x n w (by omega) (by omega)
theorem right_q (x : UInt32) (i : Int) (w : World) (n : Nat) (h0 : 0 < i) (h1 : i < 32) :
    Calls Try.prog 102 #[.int .u32 (un x), .int .i64 i] (w.drewN n) fun e w' => e = .returned (.int .u32 (un (ror x i))) ∧ ∃ m, w' = w.drewN m :=
  (right_i x i (w.drewN n) h0 h1).mono fun _ _ h => ⟨h.1, n, h.2.symm⟩
theorem right_q2 (x : UInt32) (i : Int) (w : World) (k n : Nat) (h0 : 0 < i) (h1 : i < 32) :
    Calls Try.prog 102 #[.int .u32 (un x), .int .i64 i] (w.drewN (k + n)) fun e w' => e = .returned (.int .u32 (un (ror x i))) ∧ ∃ m, w' = w.drewN (k + m) :=
  (right_i x i (w.drewN (k + n)) h0 h1).mono fun _ _ h => ⟨h.1, n, h.2.symm⟩
theorem word_at (s : ByteArray) (h0 : 0 < s.size) (h1 : 1 < s.size) (h2 : 2 < s.size) (h3 : 3 < s.size) : word s.data.toList = s[0].toUInt32 <<< 24 ||| s[1].toUInt32 <<< 16 ||| s[2].toUInt32 <<< 8 ||| s[3].toUInt32 := by
  have g : ∀ i (h : i < s.size), s.data.toList.getD i 0 = s[i] := fun i h => by
    rw [List.getD_eq_getElem?_getD, List.getElem?_eq_getElem (by simpa using h)]; rfl
  rw [word, g 0 h0, g 1 h1, g 2 h2, g 3 h3]
theorem word_c (s : ByteArray) (w : World) (hs : s.size ≤ 9223372036854775807) (hx : 4 ≤ s.size) : Calls Try.prog 103 #[.string s] w fun e w' => e = .returned (.int .u32 (un (word s.data.toList))) ∧ ∃ n, w' = w.drewN n := by
  have h0 : 0 < s.size := by omega
  have h1 : (1 : Int) < (s.size : Int) := by omega
  have h2 : (2 : Int) < (s.size : Int) := by omega
  have h3 : (3 : Int) < (s.size : Int) := by omega
  go_enter Try.func103, Try.ntmps103
  go_wp2
  go_quiet (fail)
  go_wp2
  go_ret
  refine ⟨ret_int ?_, _, rfl⟩
  simp only [u_byte]; simp only [u_shl24, u_shl16, u_shl8, u_or]
  rw [word_at s h0 (by omega) (by omega) (by omega)]
end Go.Proofs.Ytkdakmddlkgjkaa
