import Derived.Test.YtdlgbokmfooeoaaMacB
open Go.RowKit Go.Lib
namespace Go.Proofs.Ytdlgbokmfooeoaa
set_option maxRecDepth 100000
open Sha
set_option maxRecDepth 100000 in
set_option maxHeartbeats 1000000 in
theorem mac_c (k s : ByteArray) (w : World) (hk : k.size ≤ 140737488355200) (hs : s.size ≤ 1407374883552) :
    Calls Try.prog 7 #[.string k, .string s] w fun e w' => e = .returned (.string ⟨(mac k.data.toList s.data.toList).toArray⟩) ∧ Below w.heap.size w w' := by
  obtain ⟨K, hK⟩ : ∃ K, key k.data.toList = K := ⟨_, rfl⟩
  have hm : mac k.data.toList s.data.toList = sha (K.map (· ^^^ 0x5c) ++ sha (K.map (· ^^^ 0x36) ++ s.data.toList)) := by rw [← hK]; rfl
  have hl : K.length = 64 := by rw [← hK]; exact key_len _
  obtain ⟨A, hA⟩ : ∃ A, A = K.map (· ^^^ 0x36) := ⟨_, rfl⟩
  obtain ⟨B, hB⟩ : ∃ B, B = K.map (· ^^^ 0x5c) := ⟨_, rfl⟩
  obtain ⟨T, hT⟩ : ∃ T, T = sha (A ++ s.data.toList) := ⟨_, rfl⟩
  rw [← hA, ← hB, ← hT] at hm
  rw [hm]
  have hTl : T.length = 32 := by rw [hT]; exact sha_len _
  have HT := Hd.mk hT
  have HTL := Hd.mk hTl
  clear hT hTl
  have hAl : A.length = 64 := by rw [hA, List.length_map, hl]
  have hBl : B.length = 64 := by rw [hB, List.length_map, hl]
  have HK := Hd.mk hK
  have HKL := Hd.mk hl
  have HA := Hd.mk hA
  have HB := Hd.mk hB
  have HAL := Hd.mk hAl
  have HBL := Hd.mk hBl
  clear hK hl hA hB hm hAl hBl
  go_enter Try.func7, Try.ntmps7
  go_wp2_with fail
  refine (mixer_c k w hk).mono ?_
  rintro e w1 ⟨g, rfl, hc, hg, hb⟩
  rw [HK.out] at hc
  have G1 := Hd.mk hb
  have GC1 := Hd.mk hc
  have GG := Hd.mk hg
  clear hb hc hg
  go_wp2_with fail
  refine (new_c w1).mono ?_
  rintro e w2 ⟨b, rfl, hb0, hH, hb⟩
  have HM0 := Hd.mk (HM.nil hH)
  have hc2 : w2.cell? ⟨g, 0, none⟩ = some (.string ⟨K.toArray⟩) := by rw [hb.cell (p := ⟨g, 0, none⟩) GG.out]; exact GC1.out
  have GC2 := Hd.mk hc2
  have GB := Hd.mk hb0
  have G2 : Hd (Below w.heap.size w w2) := ⟨G1.out.trans (hb.mono G1.out.size)⟩
  have G2S := Hd.mk hb.size
  clear hb hb0 hH hc2
  unfold fnv
  go_wp2_with fail
  refine (mixed1_c 0x36 g ⟨K.toArray⟩ w2 (by show K.length ≤ _; rw [HKL.out]; decide) GC2.out).mono ?_
  rintro e w3 ⟨rfl, hb⟩
  have HM1 := Hd.mk (HM0.out.ext hb)
  have GC3 : Hd (w3.cell? ⟨g, 0, none⟩ = some (.string ⟨K.toArray⟩)) := ⟨by rw [hb.cell (p := ⟨g, 0, none⟩) (by have := GG.out; have := G2S.out; show g < _; omega)]; exact GC2.out⟩
  have G3 : Hd (Below w.heap.size w w3) := ⟨G2.out.trans (hb.mono G2.out.size)⟩
  have GBL : Hd (b < w2.heap.size) := ⟨HM0.out.lt⟩
  have G3S : Hd (w1.heap.size ≤ w3.heap.size) := ⟨Nat.le_trans G2S.out hb.size⟩
  rw [show (ByteArray.mk K.toArray).data.toList = K from rfl, ← HA.out]
  clear hb
  go_wp2_with fail
  refine (write_m b [] ⟨A.toArray⟩ w3 HM1.out (by show 0 + A.length ≤ _; rw [HAL.out]; decide)).mono ?_
  rintro e w4 ⟨rfl, hm, hu⟩
  rw [List.nil_append] at hm
  have HM2 : Hd (HM w4 b A) := ⟨hm⟩
  have GC4 : Hd (w4.cell? ⟨g, 0, none⟩ = some (.string ⟨K.toArray⟩)) := ⟨by
    rw [World.cell?_of_block (w := w3) (a := ⟨g, 0, none⟩) (hu.block g (by have := GG.out; have := G3S.out; omega) (fun hc => by have := GG.out; have := GB.out; omega))]; exact GC3.out⟩
  have G4 : Hd (Below w.heap.size w w4) := ⟨G3.out.trans (hu.below G3.out.size (fun k hk => by rw [hk]; exact Nat.le_trans G1.out.size GB.out))⟩
  have G4S : Hd (w1.heap.size ≤ w4.heap.size) := ⟨Nat.le_trans G3S.out hu.size⟩
  clear hm hu
  go_wp2_with fail
  refine (write_m b A s w4 HM2.out (by rw [HAL.out]; omega)).mono ?_
  rintro e w5 ⟨rfl, hm, hu⟩
  have HM3 := Hd.mk hm
  have GC5 : Hd (w5.cell? ⟨g, 0, none⟩ = some (.string ⟨K.toArray⟩)) := ⟨by
    rw [World.cell?_of_block (w := w4) (a := ⟨g, 0, none⟩) (hu.block g (by have := GG.out; have := G4S.out; omega) (fun hc => by have := GG.out; have := GB.out; omega))]; exact GC4.out⟩
  have G5 : Hd (Below w.heap.size w w5) := ⟨G4.out.trans (hu.below G4.out.size (fun k hk => by rw [hk]; exact Nat.le_trans G1.out.size GB.out))⟩
  clear hm hu
  go_wp2_with fail
  refine (mixed1_c 0x5c g ⟨K.toArray⟩ w5 (by show K.length ≤ _; rw [HKL.out]; decide) GC5.out).mono ?_
  rintro e w6 ⟨rfl, hb⟩
  have HM4 := Hd.mk (HM3.out.ext hb)
  have G6 : Hd (Below w.heap.size w w6) := ⟨G5.out.trans (hb.mono G5.out.size)⟩
  rw [show (ByteArray.mk K.toArray).data.toList = K from rfl, ← HB.out]
  clear hb
  go_wp2_with fail
  refine (sum_c b (A ++ s.data.toList) w6 HM4.out (by rw [List.length_append, HAL.out]; simp; omega)).mono ?_
  rintro e w7 ⟨rfl, hb⟩
  have G7 : Hd (Below w.heap.size w w7) := ⟨G6.out.trans (hb.mono G6.out.size)⟩
  clear hb
  rw [← HT.out]
  have hov : ¬ 9223372036854775807 < B.length + T.length := by rw [HBL.out, HTL.out]; decide
  go_wp2_with fail
  clear hov
  refine (of_c _ w7 (by rw [ByteArray.size_append]; show B.length + T.length ≤ _; rw [HBL.out, HTL.out]; decide)).mono ?_
  rintro e w8 ⟨rfl, hb⟩
  have G8 : Hd (Below w.heap.size w w8) := ⟨G7.out.trans (hb.mono G7.out.size)⟩
  have e1 : (({ data := B.toArray } : ByteArray) ++ { data := T.toArray }).data.toList = B ++ T := by simp
  rw [e1]
  clear hb e1
  go_wp2
  go_ret
  exact ⟨rfl, G8.out⟩
end Go.Proofs.Ytdlgbokmfooeoaa
