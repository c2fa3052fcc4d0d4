import Derived.Test.YtdlgbokmfooeoaaHex
open Go.RowKit Go.Lib
namespace Go.Proofs.Ytdlgbokmfooeoaa
set_option maxRecDepth 100000
open Sha
def kkey : List UInt8 := [107, 101, 121]
def kfox : List UInt8 := [84, 104, 101, 32, 113, 117, 105, 99, 107, 32, 98, 114, 111, 119, 110, 32, 102, 111, 120, 32, 106, 117, 109, 112, 115, 32, 111, 118, 101, 114, 32, 116, 104, 101, 32, 108, 97, 122, 121, 32, 100, 111, 103]
def khex : List UInt8 := [102, 55, 98, 99, 56, 51, 102, 52, 51, 48, 53, 51, 56, 52, 50, 52, 98, 49, 51, 50, 57, 56, 101, 54, 97, 97, 54, 102, 98, 49, 52, 51, 101, 102, 52, 100, 53, 57, 97, 49, 52, 57, 52, 54, 49, 55, 53, 57, 57, 55, 52, 55, 57, 100, 98, 99, 50, 100, 49, 97, 51, 99, 100, 56]
set_option maxRecDepth 1000000 in
theorem k_hex : hex (mac kkey kfox) = khex := by decide +kernel
set_option maxRecDepth 100000 in
set_option maxHeartbeats 1000000 in
theorem known_c (w : World) : Calls Try.prog 6 #[] w fun e w' => e = .returned (.bool true) ∧ Below w.heap.size w w' := by
  obtain ⟨T, hT⟩ : ∃ T, mac kkey kfox = T := ⟨_, rfl⟩
  have hTl : T.length = 32 := by rw [← hT]; exact sha_len _
  have hTh : hex T = khex := by rw [← hT]; exact k_hex
  have HT := Hd.mk hT
  have HTL := Hd.mk hTl
  have HTH := Hd.mk hTh
  clear hT hTl hTh
  go_enter Try.func6, Try.ntmps6
  go_wp2_with fail
  refine (mac_c ⟨kkey.toArray⟩ ⟨kfox.toArray⟩ w (by decide) (by decide)).mono ?_
  rintro e w1 ⟨rfl, hb⟩
  rw [show (ByteArray.mk kkey.toArray).data.toList = kkey from rfl, show (ByteArray.mk kfox.toArray).data.toList = kfox from rfl, HT.out]
  have G1 := Hd.mk hb
  clear hb
  go_wp2_with fail
  refine (hex_c T w1 (by rw [HTL.out]; decide)).mono ?_
  rintro e w2 ⟨rfl, hb⟩
  have G2 : Hd (Below w.heap.size w w2) := ⟨G1.out.trans (hb.mono G1.out.size)⟩
  clear hb
  rw [HTH.out]
  go_wp2_with fail
  refine (right_of ⟨kkey.toArray⟩ ⟨kfox.toArray⟩ T w2 (by decide) (by decide) (by rw [HTL.out]; decide)).mono ?_
  rintro e w3 ⟨rfl, hb⟩
  have G3 : Hd (Below w.heap.size w w3) := ⟨G2.out.trans (hb.mono G2.out.size)⟩
  rw [show (ByteArray.mk kkey.toArray).data.toList = kkey from rfl, show (ByteArray.mk kfox.toArray).data.toList = kfox from rfl, HT.out, decide_eq_true rfl]
  clear hb
  have hov : T.length + 1 < 9223372036854775807 := by rw [HTL.out]; decide
  go_wp2_with fail
  have hcat : ({ data := T.toArray } : ByteArray) ++ { data := #[120] } = ⟨(T ++ [120]).toArray⟩ := by
    apply ByteArray.ext
    simp
  rw [hcat]
  clear hov hcat
  refine (right_of ⟨kkey.toArray⟩ ⟨kfox.toArray⟩ (T ++ [120]) w3 (by decide) (by decide) (by rw [List.length_append, HTL.out]; decide)).mono ?_
  rintro e w4 ⟨rfl, hb⟩
  have G4 : Hd (Below w.heap.size w w4) := ⟨G3.out.trans (hb.mono G3.out.size)⟩
  have hne : ¬ (T ++ [120] = T) := fun h => by have := congrArg List.length h; simp at this
  rw [show (ByteArray.mk kkey.toArray).data.toList = kkey from rfl, show (ByteArray.mk kfox.toArray).data.toList = kfox from rfl, HT.out, decide_eq_false hne]
  clear hb hne
  go_wp2_with fail
  refine (key_c ⟨[107].toArray⟩ w4 (by decide)).mono ?_
  rintro e w5 ⟨rfl, hb⟩
  have G5 : Hd (Below w.heap.size w w5) := ⟨G4.out.trans (hb.mono G4.out.size)⟩
  obtain ⟨Y, hY⟩ : ∃ Y, key (ByteArray.mk [107].toArray).data.toList = Y := ⟨_, rfl⟩
  have hYl : Y.length = 64 := by rw [← hY]; exact key_len _
  rw [hY]
  clear hb hY
  go_wp2
  go_ret
  exact ⟨rfl, G5.out⟩
end Go.Proofs.Ytdlgbokmfooeoaa
