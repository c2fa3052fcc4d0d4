import Derived.Test.YtkdakmddlkgjkaaDig5
open Go.RowKit
namespace Go.Proofs.Ytkdakmddlkgjkaa
set_option maxRecDepth 100000
open Sha
def zs (n : Nat) : Nat := (119 - n % 64) % 64
theorem byte_eq (n k : Nat) : (n : Int) * 8 / 2 ^ k % 256 = ((UInt8.ofNat (8 * n / 2 ^ k)).toNat : Int) := by
  rw [UInt8.toNat_ofNat', Nat.mul_comm 8 n, Int.natCast_emod, Int.natCast_ediv, Int.natCast_mul, Int.natCast_pow]
  rfl
theorem be8_succ (m i : Nat) (hi : i < 8) : (be8 m).take (i + 1) = (be8 m).take i ++ [UInt8.ofNat (m / 2 ^ (56 - 8 * i))] := by
  have hl : (be8 m).length = 8 := by simp [be8]
  rw [List.take_succ_eq_append_getElem (by omega)]
  simp [be8]
set_option maxRecDepth 100000 in
set_option maxHeartbeats 1000000 in
theorem ending_c (n : Nat) (w : World) (hn : n ≤ 1152921504606846976) : Calls Try.prog 96 #[.int .i64 n] w fun e w' => ∃ v, e = .returned v ∧ OwnB w' w.heap.size v (pad n) ∧ Below w.heap.size w w' := by
  go_enter Try.func96, Try.ntmps96
  go_wp2
  go_loopw [3] (fun x wr => ∃ j : Nat, j ≤ zs n ∧ OwnB wr w.heap.size x (0x80 :: List.replicate j 0) ∧ Below w.heap.size w wr ∧ (∃ p c, x = .slice p (j + 1) c)) (fun x _ => 200 - (match x with | .slice _ l _ => l | _ => 0))
  case atStart =>
    refine ⟨0, Nat.zero_le _, ?_, (Below.refl _ _).alloc (Nat.le_refl _) _, _, _, rfl⟩
    exact OwnB.lit w _ _ [0x80] _ rfl rfl (Nat.le_refl _) (by decide) 1 rfl
  case round =>
    obtain ⟨j, hj, hown, hb, p, c, rfl⟩ := hrel
    have hj63 : j ≤ 63 := by unfold zs at hj; omega
    have hz := hb.size
    have HO := Hd.mk hown
    have HB := Hd.mk hb
    have HJ := Hd.mk hj
    clear hown hb hj
    by_cases hc : (n + (j + 1)) % 64 = 56
    · have hc1 : (((n : Int) + ((j : Int) + 1)) % 64 != 56) = false := by rw [bne_eq_false_iff_eq]; omega
      have HC := Hd.mk hc
      clear hc
      go_wp2_with fail
      have hjz : j = zs n := by have := HC.out; have := HJ.out; unfold zs at *; omega
      have HO2 : Hd (OwnB wr w.heap.size (.slice p (j + 1) c) (0x80 :: List.replicate (zs n) 0)) := ⟨hjz ▸ HO.out⟩
      clear hjz
      go_loopw [3, 5] (fun x y wr => ∃ i : Nat, i ≤ 8 ∧ y = .int .i64 (56 - 8 * (i : Int)) ∧ OwnB wr w.heap.size x ((0x80 :: List.replicate (zs n) 0) ++ (be8 (8 * n)).take i) ∧ Below w.heap.size w wr) (fun _ y _ => (intOf y + 8).toNat)
      case atStart => exact ⟨0, by omega, rfl, by rw [List.take_zero, List.append_nil]; exact HO2.out, HB.out⟩
      case round =>
        clear HO2 HO HB HC HJ
        obtain ⟨i, hi, rfl, hown, hb⟩ := hrel
        have hz := hb.size
        have HO := Hd.mk hown
        have HB := Hd.mk hb
        clear hown hb
        by_cases hlt : i < 8
        · obtain ⟨b, hbb⟩ : ∃ b : UInt8, b = UInt8.ofNat (8 * n / 2 ^ (56 - 8 * i)) := ⟨_, rfl⟩
          have HBB := Hd.mk hbb
          clear hbb
          have HE : Hd ((n : Int) * 8 / 2 ^ (56 - 8 * i) % 256 = (b.toNat : Int)) := ⟨by rw [HBB.out]; exact byte_eq n _⟩
          have HL : Hd (((0x80 :: List.replicate (zs n) 0) ++ (be8 (8 * n)).take i).length ≤ 100) := ⟨by simp [be8, zs]; omega⟩
          go_wp2_with (first
            | ((with_reducible refine wpList_plain rfl fun K hK => W_buildB 1 [.tmp 28] [b] ?hq (hK _ _ ?_)); (case hq => exact ⟨congrArg (fun z => [Value.int .u8 z]) HE.out, rfl, by decide, by decide⟩))
            | ((with_reducible refine wpList_plain rfl fun K hK => W_appB (.tmp 23) (.tmp 29) wr.heap.size 1 [b] (0, 0) [] (HO.out.alloc _) ?hp fun v' w' h2 h3 h4 => hK _ _ ?_); (case hp => exact ⟨rfl, rfl, blk_new _ _ _ _ _ rfl, by have := HL.out; simp only [List.length_cons, List.length_nil]; omega, by rw [sz_alloc]; omega⟩); have H2 := Hd.mk h2; have H3 := Hd.mk h3; clear h2 h3 h4))
          go_roundw
          case rel =>
            refine ⟨i + 1, hlt, congrArg (Value.int .i64) (by omega), ?_, Below.app (HB.out.alloc (by omega) _) H3.out (HO.out.alloc _) (by rw [sz_alloc]; omega) (Nat.le_refl _)⟩
            rw [be8_succ _ _ hlt, ← List.append_assoc, ← HBB.out]
            exact H2.out
          case measure => simp [intOf]; omega
        · have hv := HO.out
          rw [List.take_of_length_le (by simp [be8]; omega)] at hv
          have HV := Hd.mk hv
          clear hv
          go_wp2
          go_ret
          exact ⟨_, rfl, HV.out, HB.out⟩
    · have hc1 : (((n : Int) + ((j : Int) + 1)) % 64 != 56) = true := by rw [bne_iff_ne]; omega
      have HC := Hd.mk hc
      clear hc
      go_wp2_with ((with_reducible refine wpList_plain rfl fun K hK => W_appB (.tmp 13) (.tmp 14) wr.heap.size 1 [0] (0, 0) [] (HO.out.alloc _) ?hp fun v' w' h2 h3 h4 => hK _ _ ?_); (case hp => exact ⟨rfl, rfl, blk_new _ _ _ _ _ rfl, by simp; omega, by rw [sz_alloc]; omega⟩); have H2 := Hd.mk h2; have H3 := Hd.mk h3; clear h2 h3 h4)
      go_roundw
      case rel =>
        have hf := H2.out.form (j + 1 + 1) (by simp)
        refine ⟨j + 1, by have := HJ.out; have := HC.out; unfold zs at *; omega, ?_, Below.app (HB.out.alloc (by omega) _) H3.out (HO.out.alloc _) (by rw [sz_alloc]; omega) (Nat.le_refl _), hf⟩
        rw [List.replicate_succ']; exact H2.out
      case measure =>
        obtain ⟨a, c', hf⟩ := H2.out.form (j + 1 + 1) (by simp)
        rw [hf]; simp; omega
end Go.Proofs.Ytkdakmddlkgjkaa
