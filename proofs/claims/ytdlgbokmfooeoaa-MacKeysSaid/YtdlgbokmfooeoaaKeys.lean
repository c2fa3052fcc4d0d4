import Derived.Test.YtdlgbokmfooeoaaKnown
open Go.RowKit Go.Lib
namespace Go.Proofs.Ytdlgbokmfooeoaa
set_option maxRecDepth 100000
set_option maxRecDepth 100000
open Sha
theorem key_long (l : List UInt8) (h : 64 < l.length) : key l = sha l ++ List.replicate 32 0 := by
  unfold key
  simp only [gt_iff_lt, h, ↓reduceIte, sha_len]
theorem key_short (l : List UInt8) (h : l.length ≤ 64) : key l = l ++ List.replicate (64 - l.length) 0 := by
  unfold key
  have h2 : ¬ 64 < l.length := by omega
  simp only [gt_iff_lt, h2, ↓reduceIte]
theorem key_sha (l : List UInt8) (h : 64 < l.length) : key (sha l) = key l := by
  rw [key_long l h, key_short (sha l) (by rw [sha_len]; decide), sha_len]
theorem key_pad (l : List UInt8) (j : Nat) (h : l.length + j ≤ 64) : key (l ++ List.replicate j 0) = key l := by
  rw [key_short l (by omega), key_short _ (by simpa using h), List.append_assoc, List.length_append, List.length_replicate]
  congr 1
  rw [List.replicate_append_replicate]
  congr 1; omega
theorem mac_of_key {a b : List UInt8} (h : key a = key b) (s : List UInt8) : mac a s = mac b s := by unfold mac; rw [h]
set_option maxRecDepth 100000 in
set_option maxHeartbeats 1000000 in
theorem keys_c (k s : ByteArray) (m : Int) (hm : 0 ≤ m ∧ m ≤ 255) (w : World) :
    Calls Try.prog 4 #[.string k, .int .u8 m, .string s] w fun e w' => e = .returned (.bool true) ∧ Below w.heap.size w w' := by
  by_cases h1 : 300 < k.size
  · go_enter Try.func4, Try.ntmps4
    go_wp2_with fail
    refine (known_c w).mono ?_
    rintro e w1 ⟨rfl, hb⟩
    have G1 := Hd.mk hb
    clear hb
    go_wp2
    go_ret
    exact ⟨rfl, G1.out⟩
  by_cases h2 : 1000 < s.size
  · go_enter Try.func4, Try.ntmps4
    go_wp2_with fail
    refine (known_c w).mono ?_
    rintro e w1 ⟨rfl, hb⟩
    have G1 := Hd.mk hb
    clear hb
    go_wp2
    go_ret
    exact ⟨rfl, G1.out⟩
  obtain ⟨kl, rfl⟩ : ∃ l : List UInt8, k = ⟨l.toArray⟩ := ⟨k.data.toList, rfl⟩
  obtain ⟨K, hK⟩ : ∃ K, key kl = K := ⟨_, rfl⟩
  have hl : K.length = 64 := by rw [← hK]; exact key_len _
  obtain ⟨M, hM⟩ : ∃ M, mac kl s.data.toList = M := ⟨_, rfl⟩
  have hks : ¬ 300 < kl.length := h1
  have HK := Hd.mk hK
  have HKL := Hd.mk hl
  have HM := Hd.mk hM
  clear hK hl hM
  have e64 : ((K.length : Int) != 64) = false := by rw [HKL.out]; rfl
  by_cases h3 : 64 < kl.length
  · go_enter Try.func4, Try.ntmps4
    go_wp2_with fail
    refine (key_c ⟨kl.toArray⟩ w (by show kl.length ≤ _; omega)).mono ?_
    rintro e w1 ⟨rfl, hb⟩
    rw [show (ByteArray.mk kl.toArray).data.toList = kl from rfl, HK.out]
    have G1 := Hd.mk hb
    clear hb
    go_wp2_with fail
    refine region_ext [0, 0, 2, 0, 0, 0, 2, 1, 1, 1, 1, 1] (by kernel_rfl) (by kernel_rfl) (fun _ _ _ _ _ h => h) ?_
    simp (decide := true) only [pick, ↓reduceIte]
    have hk64 := HKL.out
    repeat go_big_quiet_step (fail)
    refine wpQuiet_nil ?_
    refine wpF_plain rfl ?_
    go_step
    refine (mac_c ⟨kl.toArray⟩ s w1.drew (by show kl.length ≤ _; omega) (by omega)).mono ?_
    rintro e w2 ⟨rfl, hb⟩
    refine ⟨hb, ?_⟩
    have G2 : Hd (Below w.heap.size w w2) := ⟨(Below.drew G1.out).trans (hb.mono G1.out.size)⟩
    rw [show (ByteArray.mk kl.toArray).data.toList = kl from rfl, HM.out]
    clear hb
    refine wpF_plain rfl ?_
    go_step
    have hx : ({ data := K.toArray } : ByteArray).extract 0 32 = ⟨(sha kl).toArray⟩ := by
      rw [← HK.out, key_long kl h3]
      apply ByteArray.ext
      rw [ByteArray.data_extract]
      have e : (sha kl ++ List.replicate 32 0).take 32 = sha kl := by rw [List.take_append_of_le_length (by rw [sha_len]; decide), List.take_of_length_le (by rw [sha_len]; decide)]
      rw [List.extract_toArray, List.extract_eq_take_drop, List.drop_zero, e]
    rw [hx]
    clear hx
    refine (mac_c ⟨(sha kl).toArray⟩ s w2 (by show (sha kl).length ≤ _; rw [sha_len]; decide) (by omega)).mono ?_
    rintro e w3 ⟨rfl, hb⟩
    refine ⟨hb, ?_⟩
    have G3 : Hd (Below w.heap.size w w3) := ⟨G2.out.trans (hb.mono G2.out.size)⟩
    rw [show (ByteArray.mk (sha kl).toArray).data.toList = sha kl from rfl, mac_of_key (key_sha kl h3), HM.out]
    clear hb
    refine wpF_nil ?_
    go_wp2_with fail
    refine (known_c w3).mono ?_
    rintro e w4 ⟨rfl, hb⟩
    have G4 : Hd (Below w.heap.size w w4) := ⟨G3.out.trans (hb.mono G3.out.size)⟩
    clear hb
    go_wp2
    go_ret
    exact ⟨rfl, G4.out⟩
  · have hkl : kl.length ≤ 64 := by omega
    have HKS := Hd.mk hkl
    go_enter Try.func4, Try.ntmps4
    go_wp2_with fail
    refine (key_c ⟨kl.toArray⟩ w (by show kl.length ≤ _; omega)).mono ?_
    rintro e w1 ⟨rfl, hb⟩
    rw [show (ByteArray.mk kl.toArray).data.toList = kl from rfl, HK.out]
    have G1 := Hd.mk hb
    clear hb
    go_wp2_with fail
    go_loopw [8, 9] (fun x i wr => ∃ j : Nat, i = .int .i64 j ∧ x = .string ⟨(kl ++ List.replicate j 0).toArray⟩ ∧ kl.length + j ≤ 64 ∧ Below w.heap.size w wr) (fun _ i _ => 64 - (intOf i).toNat)
    case atStart => exact ⟨0, rfl, by rw [List.replicate_zero, List.append_nil], by omega, G1.out⟩
    case round =>
      obtain ⟨j, rfl, rfl, hj, hb⟩ := hrel
      have HB := Hd.mk hb
      clear hb
      obtain ⟨L, hL⟩ : ∃ L, L = kl ++ List.replicate j 0 := ⟨_, rfl⟩
      rw [← hL]
      have hLl : L.length = kl.length + j := by rw [hL]; simp
      have HL := Hd.mk hL
      have HLL := Hd.mk hLl
      clear hL
      by_cases c1 : (j : Int) < m
      · by_cases c2 : L.length < 64
        · clear hLl
          go_wp2_with fail
          go_roundw
          case rel =>
            refine ⟨j + 1, by go_num, ?_, by have := HLL.out; omega, HB.out⟩
            rw [List.replicate_succ', ← List.append_assoc, ← HL.out]
            congr 1
          case measure => simp [intOf]; have := HLL.out; omega
        · clear hLl
          go_wp2_with fail
          refine (mac_c ⟨kl.toArray⟩ s wr (by show kl.length ≤ _; omega) (by omega)).mono ?_
          rintro e w2 ⟨rfl, hb⟩
          have G2 : Hd (Below w.heap.size w w2) := ⟨HB.out.trans (hb.mono HB.out.size)⟩
          rw [show (ByteArray.mk kl.toArray).data.toList = kl from rfl, HM.out]
          clear hb
          have hKL : key L = key kl := by rw [HL.out]; exact key_pad kl j hj
          have HKL2 := Hd.mk hKL
          have HLB : Hd (L.length ≤ 64) := ⟨by rw [HLL.out]; exact hj⟩
          clear hKL
          go_wp2_with fail
          refine (mac_c ⟨L.toArray⟩ s w2 (by show L.length ≤ _; have := HLB.out; omega) (by omega)).mono ?_
          rintro e w3 ⟨rfl, hb⟩
          have G3 : Hd (Below w.heap.size w w3) := ⟨G2.out.trans (hb.mono G2.out.size)⟩
          rw [show (ByteArray.mk L.toArray).data.toList = L from rfl, mac_of_key HKL2.out, HM.out]
          clear hb
          go_wp2_with fail
          refine (key_c ⟨L.toArray⟩ w3 (by show L.length ≤ _; have := HLB.out; omega)).mono ?_
          rintro e w4 ⟨rfl, hb⟩
          have G4 : Hd (Below w.heap.size w w4) := ⟨G3.out.trans (hb.mono G3.out.size)⟩
          rw [show (ByteArray.mk L.toArray).data.toList = L from rfl, HKL2.out, HK.out]
          clear hb
          go_wp2_with fail
          refine (key_c ⟨kl.toArray⟩ w4 (by show kl.length ≤ _; omega)).mono ?_
          rintro e w5 ⟨rfl, hb⟩
          have G5 : Hd (Below w.heap.size w w5) := ⟨G4.out.trans (hb.mono G4.out.size)⟩
          rw [show (ByteArray.mk kl.toArray).data.toList = kl from rfl, HK.out]
          clear hb
          go_wp2_with fail
          refine (key_c ⟨kl.toArray⟩ w5 (by show kl.length ≤ _; omega)).mono ?_
          rintro e w6 ⟨rfl, hb⟩
          have G6 : Hd (Below w.heap.size w w6) := ⟨G5.out.trans (hb.mono G5.out.size)⟩
          rw [show (ByteArray.mk kl.toArray).data.toList = kl from rfl, HK.out]
          clear hb
          have hk64 := HKL.out
          go_wp2_with fail
          refine (known_c w6).mono ?_
          rintro e w7 ⟨rfl, hb⟩
          have G7 : Hd (Below w.heap.size w w7) := ⟨G6.out.trans (hb.mono G6.out.size)⟩
          clear hb
          go_wp2
          go_ret
          exact ⟨rfl, G7.out⟩
      · clear hLl
        go_wp2_with fail
        refine (mac_c ⟨kl.toArray⟩ s wr (by show kl.length ≤ _; omega) (by omega)).mono ?_
        rintro e w2 ⟨rfl, hb⟩
        have G2 : Hd (Below w.heap.size w w2) := ⟨HB.out.trans (hb.mono HB.out.size)⟩
        rw [show (ByteArray.mk kl.toArray).data.toList = kl from rfl, HM.out]
        clear hb
        have hKL : key L = key kl := by rw [HL.out]; exact key_pad kl j hj
        have HKL2 := Hd.mk hKL
        have HLB : Hd (L.length ≤ 64) := ⟨by rw [HLL.out]; exact hj⟩
        clear hKL
        go_wp2_with fail
        refine (mac_c ⟨L.toArray⟩ s w2 (by show L.length ≤ _; have := HLB.out; omega) (by omega)).mono ?_
        rintro e w3 ⟨rfl, hb⟩
        have G3 : Hd (Below w.heap.size w w3) := ⟨G2.out.trans (hb.mono G2.out.size)⟩
        rw [show (ByteArray.mk L.toArray).data.toList = L from rfl, mac_of_key HKL2.out, HM.out]
        clear hb
        go_wp2_with fail
        refine (key_c ⟨L.toArray⟩ w3 (by show L.length ≤ _; have := HLB.out; omega)).mono ?_
        rintro e w4 ⟨rfl, hb⟩
        have G4 : Hd (Below w.heap.size w w4) := ⟨G3.out.trans (hb.mono G3.out.size)⟩
        rw [show (ByteArray.mk L.toArray).data.toList = L from rfl, HKL2.out, HK.out]
        clear hb
        go_wp2_with fail
        refine (key_c ⟨kl.toArray⟩ w4 (by show kl.length ≤ _; omega)).mono ?_
        rintro e w5 ⟨rfl, hb⟩
        have G5 : Hd (Below w.heap.size w w5) := ⟨G4.out.trans (hb.mono G4.out.size)⟩
        rw [show (ByteArray.mk kl.toArray).data.toList = kl from rfl, HK.out]
        clear hb
        go_wp2_with fail
        refine (key_c ⟨kl.toArray⟩ w5 (by show kl.length ≤ _; omega)).mono ?_
        rintro e w6 ⟨rfl, hb⟩
        have G6 : Hd (Below w.heap.size w w6) := ⟨G5.out.trans (hb.mono G5.out.size)⟩
        rw [show (ByteArray.mk kl.toArray).data.toList = kl from rfl, HK.out]
        clear hb
        have hk64 := HKL.out
        go_wp2_with fail
        refine (known_c w6).mono ?_
        rintro e w7 ⟨rfl, hb⟩
        have G7 : Hd (Below w.heap.size w w7) := ⟨G6.out.trans (hb.mono G6.out.size)⟩
        clear hb
        go_wp2
        go_ret
        exact ⟨rfl, G7.out⟩
end Go.Proofs.Ytdlgbokmfooeoaa
