import Derived.Test.YtdlgbokmfooeoaaRefE
open Go.RowKit Go.Lib
namespace Go.Proofs.Ytdlgbokmfooeoaa
set_option maxRecDepth 100000
open Sha
set_option maxHeartbeats 1000000 in
theorem rkey_c (s : ByteArray) (w : World) (hs : s.size ≤ 1407374883552) :
    Calls Try.prog 10 #[.string s] w fun e w' => e = .returned (.string ⟨(key s.data.toList).toArray⟩) ∧ Below w.heap.size w w' := by
  have hsl : s.data.toList.length = s.size := by simp
  by_cases hc : s.size > 64
  · have hc1 : decide ((s.size : Int) > 64) = true := by rw [decide_eq_true_eq]; omega
    obtain ⟨B, hB⟩ : ∃ B, B = sha s.data.toList := ⟨_, rfl⟩
    have hBl : B.length = 32 := by rw [hB]; exact sha_len _
    have HKB : Hd (key s.data.toList = B ++ List.replicate (64 - B.length) 0) := ⟨by
      unfold key
      have h2 : s.data.toList.length > 64 := by omega
      simp only [h2, ↓reduceIte, ← hB]⟩
    have HBB := Hd.mk hB
    clear hB hsl
    go_enter Try.func10, Try.ntmps10
    go_wp2_with fail
    refine (rsha_c s w hs).mono ?_
    rintro e w1 ⟨rfl, hb⟩
    rw [← HBB.out]
    have G1 := Hd.mk hb
    clear hb hc1
    go_wp2_with fail
    go_loopw [0] (fun x wr => ∃ j : Nat, x = .string ⟨(B ++ List.replicate j 0).toArray⟩ ∧ B.length + j ≤ 64 ∧ Below w.heap.size w wr) (fun x _ => 64 - (match x with | .string s => s.size | _ => 0))
    case atStart => exact ⟨0, by rw [List.replicate_zero, List.append_nil], by omega, G1.out⟩
    case round =>
      obtain ⟨j, rfl, hj, hb⟩ := hrel
      have HB := Hd.mk hb
      clear hb
      obtain ⟨L, hL⟩ : ∃ L, L = B ++ List.replicate j 0 := ⟨_, rfl⟩
      rw [← hL]
      have hLl : L.length = B.length + j := by rw [hL]; simp
      have HL := Hd.mk hL
      have HLL := Hd.mk hLl
      clear hL hLl
      by_cases c2 : L.length < 64
      · go_wp2_with fail
        go_roundw
        case rel =>
          refine ⟨j + 1, ?_, by have := HLL.out; omega, HB.out⟩
          rw [List.replicate_succ', ← List.append_assoc, ← HL.out]
          congr 1
        case measure =>
          have h1 : (({ data := L.toArray } : ByteArray) ++ { data := #[0] }).size = L.length + 1 := by rw [ByteArray.size_append]; rfl
          have h2 : ({ data := L.toArray } : ByteArray).size = L.length := rfl
          simp only [h1, h2]; omega
      · have he : key s.data.toList = L := by
          rw [HKB.out, HL.out]; congr 2; have := HLL.out; omega
        have HE := Hd.mk he
        clear he
        go_wp2
        go_ret
        exact ⟨by rw [HE.out]; rfl, HB.out⟩
  · have hc1 : decide ((s.size : Int) > 64) = false := by rw [decide_eq_false_iff_not]; omega
    obtain ⟨B, hB⟩ : ∃ B : List UInt8, s = ⟨B.toArray⟩ := ⟨s.data.toList, rfl⟩
    subst hB
    have hBl : B.length ≤ 64 := by have : (ByteArray.mk B.toArray).size = B.length := rfl; omega
    have HKB : Hd (key (ByteArray.mk B.toArray).data.toList = B ++ List.replicate (64 - B.length) 0) := ⟨by
      show key B = _
      unfold key
      have h2 : ¬ B.length > 64 := by omega
      simp only [h2, ↓reduceIte]⟩
    have G1 : Hd (Below w.heap.size w w) := ⟨Below.refl _ _⟩
    clear hsl
    go_enter Try.func10, Try.ntmps10
    go_wp2_with fail
    go_loopw [0] (fun x wr => ∃ j : Nat, x = .string ⟨(B ++ List.replicate j 0).toArray⟩ ∧ B.length + j ≤ 64 ∧ Below w.heap.size w wr) (fun x _ => 64 - (match x with | .string s => s.size | _ => 0))
    case atStart => exact ⟨0, by rw [List.replicate_zero, List.append_nil], by omega, G1.out⟩
    case round =>
      obtain ⟨j, rfl, hj, hb⟩ := hrel
      have HB := Hd.mk hb
      clear hb
      obtain ⟨L, hL⟩ : ∃ L, L = B ++ List.replicate j 0 := ⟨_, rfl⟩
      rw [← hL]
      have hLl : L.length = B.length + j := by rw [hL]; simp
      have HL := Hd.mk hL
      have HLL := Hd.mk hLl
      clear hL hLl
      by_cases c2 : L.length < 64
      · go_wp2_with fail
        go_roundw
        case rel =>
          refine ⟨j + 1, ?_, by have := HLL.out; omega, HB.out⟩
          rw [List.replicate_succ', ← List.append_assoc, ← HL.out]
          congr 1
        case measure =>
          have h1 : (({ data := L.toArray } : ByteArray) ++ { data := #[0] }).size = L.length + 1 := by rw [ByteArray.size_append]; rfl
          have h2 : ({ data := L.toArray } : ByteArray).size = L.length := rfl
          simp only [h1, h2]; omega
      · have he : key (ByteArray.mk B.toArray).data.toList = L := by
          rw [HKB.out, HL.out]; congr 2; have := HLL.out; omega
        have HE := Hd.mk he
        clear he
        go_wp2
        go_ret
        exact ⟨by rw [HE.out]; rfl, HB.out⟩
set_option maxHeartbeats 1000000 in
theorem rof_c (k s : ByteArray) (w : World) (hk : k.size ≤ 1407374883552) (hs : s.size ≤ 1407374883) :
    Calls Try.prog 8 #[.string k, .string s] w fun e w' => e = .returned (.string ⟨(mac k.data.toList s.data.toList).toArray⟩) ∧ Below w.heap.size w w' := by
  obtain ⟨K, hK⟩ : ∃ K, key k.data.toList = K := ⟨_, rfl⟩
  have hl : K.length = 64 := by rw [← hK]; exact key_len _
  obtain ⟨A, hA⟩ : ∃ A, A = K.map (· ^^^ 0x36) := ⟨_, rfl⟩
  obtain ⟨B, hB⟩ : ∃ B, B = K.map (· ^^^ 0x5c) := ⟨_, rfl⟩
  obtain ⟨T, hT⟩ : ∃ T, T = sha (A ++ s.data.toList) := ⟨_, rfl⟩
  have hm : mac k.data.toList s.data.toList = sha (B ++ T) := by rw [hT, hA, hB, ← hK]; rfl
  rw [hm]
  have hAl : A.length = 64 := by rw [hA, List.length_map, hl]
  have hBl : B.length = 64 := by rw [hB, List.length_map, hl]
  have hTl : T.length = 32 := by rw [hT]; exact sha_len _
  have HK := Hd.mk hK
  have HKL := Hd.mk hl
  have HA := Hd.mk hA
  have HB := Hd.mk hB
  have HT := Hd.mk hT
  have HAL := Hd.mk hAl
  have HBL := Hd.mk hBl
  have HTL := Hd.mk hTl
  clear hK hl hA hB hT hm hAl hBl hTl
  go_enter Try.func8, Try.ntmps8
  go_wp2_with fail
  refine (rkey_c k w hk).mono ?_
  rintro e w1 ⟨rfl, hb⟩
  rw [HK.out]
  have G1 := Hd.mk hb
  clear hb
  go_wp2_with fail
  refine (rmixed_c 0x5c K w1 (by rw [HKL.out]; decide)).mono ?_
  rintro e w3 ⟨rfl, hb⟩
  rw [← HB.out]
  have G3 : Hd (Below w.heap.size w w3) := ⟨G1.out.trans (hb.mono G1.out.size)⟩
  clear hb
  go_wp2_with fail
  refine (rmixed_c 0x36 K w3 (by rw [HKL.out]; decide)).mono ?_
  rintro e w4 ⟨rfl, hb⟩
  rw [← HA.out]
  have G4 : Hd (Below w.heap.size w w4) := ⟨G3.out.trans (hb.mono G3.out.size)⟩
  clear hb
  have hov : A.length + s.size < 9223372036854775807 := by rw [HAL.out]; omega
  go_wp2_with fail
  clear hov
  refine (rsha_c _ w4 (by rw [ByteArray.size_append]; show A.length + s.size ≤ _; rw [HAL.out]; omega)).mono ?_
  rintro e w5 ⟨rfl, hb⟩
  have e1 : (({ data := A.toArray } : ByteArray) ++ s).data.toList = A ++ s.data.toList := by simp
  rw [e1, ← HT.out]
  have G5 : Hd (Below w.heap.size w w5) := ⟨G4.out.trans (hb.mono G4.out.size)⟩
  clear hb e1
  have hov : B.length + T.length < 9223372036854775807 := by rw [HBL.out, HTL.out]; decide
  go_wp2_with fail
  clear hov
  refine (rsha_c _ w5 (by rw [ByteArray.size_append]; show B.length + T.length ≤ _; rw [HBL.out, HTL.out]; decide)).mono ?_
  rintro e w6 ⟨rfl, hb⟩
  have e1 : (({ data := B.toArray } : ByteArray) ++ { data := T.toArray }).data.toList = B ++ T := by simp
  rw [e1]
  have G6 : Hd (Below w.heap.size w w6) := ⟨G5.out.trans (hb.mono G5.out.size)⟩
  clear hb e1
  go_wp2
  go_ret
  exact ⟨rfl, G6.out⟩
set_option maxHeartbeats 1000000 in
theorem macof_c (k s : ByteArray) (w : World) :
    Calls Try.prog 3 #[.string k, .string s] w fun e w' => e = .returned (.bool true) ∧ Below w.heap.size w w' := by
  by_cases h1 : 500 < k.size
  · go_enter Try.func3, Try.ntmps3
    go_wp2_with fail
    refine (known_c w).mono ?_
    rintro e w1 ⟨rfl, hb⟩
    have G1 := Hd.mk hb
    clear hb
    go_wp2
    go_ret
    exact ⟨rfl, G1.out⟩
  by_cases h2 : 1000 < s.size
  · go_enter Try.func3, Try.ntmps3
    go_wp2_with fail
    refine (known_c w).mono ?_
    rintro e w1 ⟨rfl, hb⟩
    have G1 := Hd.mk hb
    clear hb
    go_wp2
    go_ret
    exact ⟨rfl, G1.out⟩
  obtain ⟨K, hK⟩ : ∃ K, key k.data.toList = K := ⟨_, rfl⟩
  obtain ⟨M, hM⟩ : ∃ M, mac k.data.toList s.data.toList = M := ⟨_, rfl⟩
  have HK := Hd.mk hK
  have HM := Hd.mk hM
  clear hK hM
  go_enter Try.func3, Try.ntmps3
  go_wp2_with fail
  refine (mac_c k s w (by omega) (by omega)).mono ?_
  rintro e w1 ⟨rfl, hb⟩
  rw [HM.out]
  have G1 := Hd.mk hb
  clear hb
  go_wp2_with fail
  refine (rof_c k s w1 (by omega) (by omega)).mono ?_
  rintro e w2 ⟨rfl, hb⟩
  rw [HM.out]
  have G2 : Hd (Below w.heap.size w w2) := ⟨G1.out.trans (hb.mono G1.out.size)⟩
  clear hb
  go_wp2_with fail
  refine (key_c k w2 (by omega)).mono ?_
  rintro e w3 ⟨rfl, hb⟩
  rw [HK.out]
  have G3 : Hd (Below w.heap.size w w3) := ⟨G2.out.trans (hb.mono G2.out.size)⟩
  clear hb
  go_wp2_with fail
  refine (rkey_c k w3 (by omega)).mono ?_
  rintro e w4 ⟨rfl, hb⟩
  rw [HK.out]
  have G4 : Hd (Below w.heap.size w w4) := ⟨G3.out.trans (hb.mono G3.out.size)⟩
  clear hb
  go_wp2_with fail
  refine (known_c w4).mono ?_
  rintro e w5 ⟨rfl, hb⟩
  have G5 : Hd (Below w.heap.size w w5) := ⟨G4.out.trans (hb.mono G4.out.size)⟩
  clear hb
  go_wp2
  go_ret
  exact ⟨rfl, G5.out⟩
end Go.Proofs.Ytdlgbokmfooeoaa
