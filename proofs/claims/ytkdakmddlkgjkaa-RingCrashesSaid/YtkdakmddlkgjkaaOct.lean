import Derived.Test.YtkdakmddlkgjkaaBn
import Derived.Test.YtkdakmddlkgjkaaPl
open Go.RowKit Go.Lib
namespace Go.Proofs.Ytkdakmddlkgjkaa
set_option maxRecDepth 100000
theorem wide_c (k : Nat) (hk : Wd k) (w : World) : Calls Try.prog 92 #[.int .i64 (k : Int)] w fun e w' => e = .returned (.bool true) ∧ w' = w := by
  have hb : bits .and .i64 (k : Int) ((k : Int) - 1) = 0 := by
    rcases hk with rfl | rfl | rfl | rfl <;> decide +kernel
  have h1 : 0 < k ∧ k ≤ 8 := by rcases hk with rfl | rfl | rfl | rfl <;> decide
  obtain ⟨h2, h3⟩ := h1
  have h4 : (0 : Int) < k := by omega
  have h5 : (k : Int) ≤ 8 := by omega
  go_enter Try.func92, Try.ntmps92
  go_wp2
  go_ret
  exact ⟨rfl, rfl⟩
set_option maxHeartbeats 1000000 in
theorem put_c (n : Int) (k : Nat) (hk : Wd k) (hn : -9223372036854775808 ≤ n ∧ n ≤ 9223372036854775807) (hf : k = 8 ∨ (0 ≤ n ∧ n < 2 ^ (8 * k))) (w : World) :
    Calls Try.prog 77 #[.int .i64 n, .int .i64 (k : Int)] w fun e w' => e = .returned (.tuple #[.string ⟨(le n k).toArray⟩, .int .i64 0]) ∧ Below w.heap.size w w' := by
  have h1 : 0 < k ∧ k ≤ 8 := by rcases hk with rfl | rfl | rfl | rfl <;> decide
  obtain ⟨h2, h3⟩ := h1
  have HNN := Hd.mk hn
  have hnu : n < 18446744073709551616 := by omega
  clear hn
  by_cases h8 : k = 8
  · have h9 : ¬ k < 8 := by omega
    clear hf hnu h8
    go_enter Try.func77, Try.ntmps77
    go_wp2_with fail
    refine (wide_c k hk w).mono ?_
    rintro e w1 ⟨rfl, rfl⟩
    go_wp2_with ((with_reducible refine wpList_plain rfl fun K hK => W_makeB k _ _ ?hp fun w2 h1 h2 => hK _ _ ?_); (case hp => exact ⟨⟨_, rfl⟩, ⟨_, rfl⟩, by omega⟩); have G2 := Hd.mk h1; have G3 := Hd.mk h2; clear h1 h2)
    go_loopw [28] (fun i wr => ∃ j : Nat, i = .int .i64 j ∧ j ≤ k ∧ Hd (OwnB wr w1.heap.size (.slice (some ⟨w1.heap.size, 0, none⟩) k k) ((le n k).take j ++ List.replicate (k - j) 0)) ∧ Hd (Below w1.heap.size w1 wr)) (fun i _ => k - (intOf i).toNat)
    case atStart => exact ⟨0, rfl, by omega, by rw [List.take_zero, List.nil_append, Nat.sub_zero]; exact G2, ⟨(Below.refl _ _).grown G3.out (Nat.le_refl _) (by simp)⟩⟩
    case round =>
      clear G2 G3
      obtain ⟨j, rfl, hj, HO, HB⟩ := hrel
      have HLN : Hd (((le n k).take j ++ List.replicate (k - j) 0).length = k) := ⟨by rw [List.length_append, List.length_take, le_len, List.length_replicate]; omega⟩
      by_cases hlt : j < k
      · obtain ⟨b, hb⟩ : ∃ b : UInt8, b = UInt8.ofNat (n / 2 ^ (8 * j) % 256).toNat := ⟨_, rfl⟩
        have hbb : n / 2 ^ (8 * j) % 256 = bn b := by
          rw [hb]; unfold bn
          rw [UInt8.toNat_ofNat']
          have := Int.emod_nonneg (n / 2 ^ (8 * j)) (show (256 : Int) ≠ 0 by decide)
          have := Int.emod_lt_of_pos (n / 2 ^ (8 * j)) (show (0 : Int) < 256 by decide)
          omega
        have cf := (HO.out.at j (by rw [HLN.out]; exact hlt)).2
        have cc := (HO.out.at j (by rw [HLN.out]; exact hlt)).1
        have HBE := Hd.mk hb
        clear hb
        go_wp2
        go_roundw
        case rel =>
          refine ⟨j + 1, by go_num, hlt, ⟨?_⟩, ⟨HB.out.setCell (p := ⟨w1.heap.size, j, none⟩) (Nat.le_refl _) _⟩⟩
          have h := HO.out.store j (by rw [HLN.out]; exact hlt) b
          have e : ((le n k).take j ++ List.replicate (k - j) 0).set j b = (le n k).take (j + 1) ++ List.replicate (k - (j + 1)) 0 := by
            have hl : (le n k).length = k := le_len n k
            rw [List.set_append_right _ _ (by rw [List.length_take]; exact Nat.min_le_left _ _), show k - j = (k - (j + 1)) + 1 by omega, List.replicate_succ, List.take_succ_eq_append_getElem (by omega)]
            have e2 : j - ((le n k).take j).length = 0 := by rw [List.length_take, hl]; omega
            rw [e2, List.set_cons_zero, List.append_assoc]
            congr 2
            rw [HBE.out]
            simp [le]
          rw [e] at h
          exact h
        case measure => simp [intOf]; omega
      · have hjk : j = k := by omega
        have hv := HO.out
        rw [hjk, Nat.sub_self, List.replicate_zero, List.append_nil, List.take_of_length_le (by rw [le_len]; exact Nat.le_refl _)] at hv
        have hst := run_strof 38 hv Try.underlying38 9 Try.underlying9
        clear hv hjk
        go_wp2
        go_ret2
        exact ⟨rfl, HB.out⟩
  · have h9 : k < 8 := by omega
    have hz : n / 2 ^ (8 * k) = 0 := by
      rcases hf with h | h
      · exact absurd h h8
      · exact Int.ediv_eq_zero_of_lt h.1 h.2
    have h0 : 0 ≤ n := by rcases hf with h | h; exact absurd h h8; exact h.1
    clear hf
    go_enter Try.func77, Try.ntmps77
    go_wp2_with fail
    refine (wide_c k hk w).mono ?_
    rintro e w1 ⟨rfl, rfl⟩
    go_wp2_with ((with_reducible refine wpList_plain rfl fun K hK => W_makeB k _ _ ?hp fun w2 h1 h2 => hK _ _ ?_); (case hp => exact ⟨⟨_, rfl⟩, ⟨_, rfl⟩, by omega⟩); have G2 := Hd.mk h1; have G3 := Hd.mk h2; clear h1 h2)
    go_loopw [28] (fun i wr => ∃ j : Nat, i = .int .i64 j ∧ j ≤ k ∧ Hd (OwnB wr w1.heap.size (.slice (some ⟨w1.heap.size, 0, none⟩) k k) ((le n k).take j ++ List.replicate (k - j) 0)) ∧ Hd (Below w1.heap.size w1 wr)) (fun i _ => k - (intOf i).toNat)
    case atStart => exact ⟨0, rfl, by omega, by rw [List.take_zero, List.nil_append, Nat.sub_zero]; exact G2, ⟨(Below.refl _ _).grown G3.out (Nat.le_refl _) (by simp)⟩⟩
    case round =>
      clear G2 G3
      obtain ⟨j, rfl, hj, HO, HB⟩ := hrel
      have HLN : Hd (((le n k).take j ++ List.replicate (k - j) 0).length = k) := ⟨by rw [List.length_append, List.length_take, le_len, List.length_replicate]; omega⟩
      by_cases hlt : j < k
      · obtain ⟨b, hb⟩ : ∃ b : UInt8, b = UInt8.ofNat (n / 2 ^ (8 * j) % 256).toNat := ⟨_, rfl⟩
        have hbb : n / 2 ^ (8 * j) % 256 = bn b := by
          rw [hb]; unfold bn
          rw [UInt8.toNat_ofNat']
          have := Int.emod_nonneg (n / 2 ^ (8 * j)) (show (256 : Int) ≠ 0 by decide)
          have := Int.emod_lt_of_pos (n / 2 ^ (8 * j)) (show (0 : Int) < 256 by decide)
          omega
        have cf := (HO.out.at j (by rw [HLN.out]; exact hlt)).2
        have cc := (HO.out.at j (by rw [HLN.out]; exact hlt)).1
        have HBE := Hd.mk hb
        clear hb
        go_wp2
        go_roundw
        case rel =>
          refine ⟨j + 1, by go_num, hlt, ⟨?_⟩, ⟨HB.out.setCell (p := ⟨w1.heap.size, j, none⟩) (Nat.le_refl _) _⟩⟩
          have h := HO.out.store j (by rw [HLN.out]; exact hlt) b
          have e : ((le n k).take j ++ List.replicate (k - j) 0).set j b = (le n k).take (j + 1) ++ List.replicate (k - (j + 1)) 0 := by
            have hl : (le n k).length = k := le_len n k
            rw [List.set_append_right _ _ (by rw [List.length_take]; exact Nat.min_le_left _ _), show k - j = (k - (j + 1)) + 1 by omega, List.replicate_succ, List.take_succ_eq_append_getElem (by omega)]
            have e2 : j - ((le n k).take j).length = 0 := by rw [List.length_take, hl]; omega
            rw [e2, List.set_cons_zero, List.append_assoc]
            congr 2
            rw [HBE.out]
            simp [le]
          rw [e] at h
          exact h
        case measure => simp [intOf]; omega
      · have hjk : j = k := by omega
        have hv := HO.out
        rw [hjk, Nat.sub_self, List.replicate_zero, List.append_nil, List.take_of_length_le (by rw [le_len]; exact Nat.le_refl _)] at hv
        have hst := run_strof 38 hv Try.underlying38 9 Try.underlying9
        clear hv hjk
        go_wp2
        go_ret2
        exact ⟨rfl, HB.out⟩
end Go.Proofs.Ytkdakmddlkgjkaa
