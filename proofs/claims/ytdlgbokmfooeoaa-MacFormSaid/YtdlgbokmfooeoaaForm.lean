import Derived.Test.YtdlgbokmfooeoaaKnown
open Go.RowKit Go.Lib
namespace Go.Proofs.Ytdlgbokmfooeoaa
open Sha
set_option maxRecDepth 100000 in
set_option maxHeartbeats 1000000 in
theorem form_c (k s : ByteArray) (w : World) :
    Calls Try.prog 5 #[.string k, .string s] w fun e w' => e = .returned (.bool true) ∧ Below w.heap.size w w' := by
  by_cases h1 : 500 < k.size
  · go_enter Try.func5, Try.ntmps5
    go_wp2_with fail
    refine (known_c w).mono ?_
    rintro e w1 ⟨rfl, hb⟩
    have G1 := Hd.mk hb
    clear hb
    go_wp2
    go_ret
    exact ⟨rfl, G1.out⟩
  by_cases h2 : 1000 < s.size
  · go_enter Try.func5, Try.ntmps5
    go_wp2_with fail
    refine (known_c w).mono ?_
    rintro e w1 ⟨rfl, hb⟩
    have G1 := Hd.mk hb
    clear hb
    go_wp2
    go_ret
    exact ⟨rfl, G1.out⟩
  obtain ⟨K, hK⟩ : ∃ K, key k.data.toList = K := ⟨_, rfl⟩
  have hl : K.length = 64 := by rw [← hK]; exact key_len _
  obtain ⟨A, hA⟩ : ∃ A, A = K.map (· ^^^ 0x36) := ⟨_, rfl⟩
  obtain ⟨B, hB⟩ : ∃ B, B = K.map (· ^^^ 0x5c) := ⟨_, rfl⟩
  obtain ⟨T, hT⟩ : ∃ T, T = sha (A ++ s.data.toList) := ⟨_, rfl⟩
  obtain ⟨R, hR⟩ : ∃ R, R = sha (B ++ T) := ⟨_, rfl⟩
  have hm : mac k.data.toList s.data.toList = R := by rw [hR, hT, hA, hB, ← hK]; rfl
  have hAl : A.length = 64 := by rw [hA, List.length_map, hl]
  have hBl : B.length = 64 := by rw [hB, List.length_map, hl]
  have hTl : T.length = 32 := by rw [hT]; exact sha_len _
  have HK := Hd.mk hK
  have HKL := Hd.mk hl
  have HA := Hd.mk hA
  have HB := Hd.mk hB
  have HT := Hd.mk hT
  have HR := Hd.mk hR
  have HM := Hd.mk hm
  have HAL := Hd.mk hAl
  have HBL := Hd.mk hBl
  have HTL := Hd.mk hTl
  clear hK hl hA hB hT hR hm hAl hBl hTl
  go_enter Try.func5, Try.ntmps5
  go_wp2_with fail
  refine (key_c k w (by omega)).mono ?_
  rintro e w1 ⟨rfl, hb⟩
  rw [HK.out]
  have G1 := Hd.mk hb
  clear hb
  go_wp2_with fail
  refine (mac_c k s w1 (by omega) (by omega)).mono ?_
  rintro e w2 ⟨rfl, hb⟩
  rw [HM.out]
  have G2 : Hd (Below w.heap.size w w2) := ⟨G1.out.trans (hb.mono G1.out.size)⟩
  clear hb
  go_wp2_with fail
  refine (lawmixed_c 0x5c ⟨K.toArray⟩ w2 (by show K.length ≤ _; rw [HKL.out]; decide)).mono ?_
  rintro e w3 ⟨rfl, hb⟩
  rw [show (ByteArray.mk K.toArray).data.toList = K from rfl, ← HB.out]
  have G3 : Hd (Below w.heap.size w w3) := ⟨G2.out.trans (hb.mono G2.out.size)⟩
  clear hb
  go_wp2_with fail
  refine (lawmixed_c 0x36 ⟨K.toArray⟩ w3 (by show K.length ≤ _; rw [HKL.out]; decide)).mono ?_
  rintro e w4 ⟨rfl, hb⟩
  rw [show (ByteArray.mk K.toArray).data.toList = K from rfl, ← HA.out]
  have G4 : Hd (Below w.heap.size w w4) := ⟨G3.out.trans (hb.mono G3.out.size)⟩
  clear hb
  have hov : A.length + s.size < 9223372036854775807 := by rw [HAL.out]; omega
  go_wp2_with fail
  clear hov
  refine (of_c _ w4 (by rw [ByteArray.size_append]; show A.length + s.size ≤ _; rw [HAL.out]; omega)).mono ?_
  rintro e w5 ⟨rfl, hb⟩
  have e1 : (({ data := A.toArray } : ByteArray) ++ s).data.toList = A ++ s.data.toList := by simp
  rw [e1, ← HT.out]
  have G5 : Hd (Below w.heap.size w w5) := ⟨G4.out.trans (hb.mono G4.out.size)⟩
  clear hb e1
  have hov : B.length + T.length < 9223372036854775807 := by rw [HBL.out, HTL.out]; decide
  go_wp2_with fail
  clear hov
  refine (of_c _ w5 (by rw [ByteArray.size_append]; show B.length + T.length ≤ _; rw [HBL.out, HTL.out]; decide)).mono ?_
  rintro e w6 ⟨rfl, hb⟩
  have e1 : (({ data := B.toArray } : ByteArray) ++ { data := T.toArray }).data.toList = B ++ T := by simp
  rw [e1, ← HR.out]
  have G6 : Hd (Below w.heap.size w w6) := ⟨G5.out.trans (hb.mono G5.out.size)⟩
  clear hb e1
  go_wp2_with fail
  refine (known_c w6).mono ?_
  rintro e w7 ⟨rfl, hb⟩
  have G7 : Hd (Below w.heap.size w w7) := ⟨G6.out.trans (hb.mono G6.out.size)⟩
  clear hb
  go_wp2
  go_ret
  exact ⟨rfl, G7.out⟩
end Go.Proofs.Ytdlgbokmfooeoaa
