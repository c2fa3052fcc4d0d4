import Derived.Test.YtdlgbokmfooeoaaMacD
open Go.RowKit Go.Lib
namespace Go.Proofs.Ytdlgbokmfooeoaa
set_option maxRecDepth 100000
open Sha
def hexs : List UInt8 := [48, 49, 50, 51, 52, 53, 54, 55, 56, 57, 97, 98, 99, 100, 101, 102]
def hx2 (x : UInt8) : List UInt8 := [hexs.getD (x >>> 4).toNat 0, hexs.getD (x &&& 15).toNat 0]
def hex (l : List UInt8) : List UInt8 := l.flatMap hx2
theorem b_shr4 (x : UInt8) : bn x / (16 : Int) = bn (x >>> 4) := by
  unfold bn
  rw [UInt8.toNat_shiftRight, Nat.shiftRight_eq_div_pow]
  rfl
theorem b_and15 (x : UInt8) : bits .and .u8 (bn x) (15 : Int) = bn (x &&& 15) := b_and x 15
theorem b_hi (x : UInt8) : (x >>> 4).toNat < 16 := by
  rw [UInt8.toNat_shiftRight, Nat.shiftRight_eq_div_pow]
  have := x.toNat_lt
  show x.toNat / 16 < 16
  omega
theorem b_lo (x : UInt8) : (x &&& 15).toNat < 16 := by
  rw [UInt8.toNat_and]
  exact Nat.lt_of_le_of_lt Nat.and_le_right (by decide)
theorem ix_hex (d : UInt8) (hd : d.toNat < 16) (w : World) : (Instr.index 9 (.string ⟨#[48, 49, 50, 51, 52, 53, 54, 55, 56, 57, 97, 98, 99, 100, 101, 102]⟩) (.int .u8 (bn d))).run Try.prog w = .ok (.int .u8 (bn (hexs.getD d.toNat 0))) w := by
  have h1 : (0 : Int) ≤ (d.toNat : Int) := by omega
  have h2 : (d.toNat : Int) < ((ByteArray.mk hexs.toArray).size : Nat) := by show (d.toNat : Int) < (16 : Nat); omega
  show (Instr.index 9 (.string ⟨hexs.toArray⟩) (.int .u8 (d.toNat : Int))).run Try.prog w = _
  rw [run_index_string w 9 ⟨hexs.toArray⟩ .u8 _ Try.underlying9, dif_pos ⟨h1, h2⟩]
  have e : (ByteArray.mk hexs.toArray)[(d.toNat : Int).toNat]'(by show d.toNat < 16; exact hd) = hexs.getD d.toNat 0 := by
    show hexs.toArray[(d.toNat : Int).toNat]'(by show d.toNat < 16; exact hd) = _
    have hh : d.toNat < hexs.length := hd
    simp [List.getD, hh]
  rw [e]
  rfl
theorem hex_take (l : List UInt8) (k : Nat) (hk : k < l.length) : hex (l.take (k + 1)) = hex (l.take k) ++ hx2 (l.getD k 0) := by
  unfold hex
  rw [List.take_succ_eq_append_getElem hk, List.flatMap_append, List.getD_eq_getElem?_getD, List.getElem?_eq_getElem hk]
  simp
theorem hex_len (l : List UInt8) : (hex l).length = 2 * l.length := by
  induction l with
  | nil => rfl
  | cons x l ih => unfold hex at *; rw [List.flatMap_cons, List.length_append, ih]; simp [hx2]; omega
set_option maxRecDepth 100000 in
set_option maxHeartbeats 1000000 in
theorem hex_c (l : List UInt8) (w : World) (hl : l.length ≤ 1407374883552) :
    Calls Try.prog 13 #[.string ⟨l.toArray⟩] w fun e w' => e = .returned (.string ⟨(hex l).toArray⟩) ∧ Below w.heap.size w w' := by
  have hl2 : l.length < 2305843009213693952 := by omega
  go_enter Try.func13, Try.ntmps13
  go_wp2_with ((with_reducible refine wpList_plain rfl fun K hK => W_make0B (2 * l.length) _ _ ?hp fun w1 hown1 hg1 => hK _ _ ?_); (case hp => exact ⟨⟨_, rfl⟩, ⟨.i64, congrArg (Value.int .i64) (by simp)⟩, by omega⟩); have G1 := Hd.mk hown1; have G2 := Hd.mk hg1; clear hown1 hg1)
  go_loopw [3, 11] (fun v i wr => ∃ j : Nat, i = .int .i64 j ∧ j ≤ l.length ∧ OwnB wr w.heap.size v (hex (l.take j)) ∧ Below w.heap.size w wr) (fun _ i _ => l.length - (intOf i).toNat)
  case atStart => exact ⟨0, rfl, by omega, G1.out, (Below.refl _ _).grown G2.out (Nat.le_refl _) (by simp)⟩
  case round =>
    clear G1 G2
    obtain ⟨j, rfl, hj, hown, hb⟩ := hrel
    have hz := hb.size
    have HO := Hd.mk hown
    have HB := Hd.mk hb
    clear hown hb
    by_cases hlt : j < l.length
    · obtain ⟨x, hx⟩ : ∃ x, x = l.getD j 0 := ⟨_, rfl⟩
      have i1 := ix_str l j hlt x hx
      have i2 := ix_hex (x >>> 4) (b_hi x)
      have i3 := ix_hex (x &&& 15) (b_lo x)
      have HX := Hd.mk hx
      clear hx
      obtain ⟨d1, hd1⟩ : ∃ d, d = hexs.getD (x >>> 4).toNat 0 := ⟨_, rfl⟩
      obtain ⟨d2, hd2⟩ : ∃ d, d = hexs.getD (x &&& 15).toNat 0 := ⟨_, rfl⟩
      rw [← hd1, ← b_shr4] at i2
      rw [← hd2, ← b_and15] at i3
      have HD1 := Hd.mk hd1
      have HD2 := Hd.mk hd2
      clear hd1 hd2
      go_wp2
      refine region_ext [0, 0, 0, 0, 0, 0, 0, 0, 0, 0, 0, 2, 1, 1] (by kernel_rfl) (by kernel_rfl) (fun _ _ _ _ _ h => h) ?_
      simp (decide := true) only [pick, ↓reduceIte]
      repeat go_big_quiet_step (fail)
      refine wpQuiet_nil ?_
      refine wpF_plain rfl ?_
      refine W_buildB 2 [.tmp 19, .tmp 24] [d1, d2] ?hq ?_
      case hq => exact ⟨rfl, rfl, by decide, by decide⟩
      refine ⟨(Below.refl _ _).alloc (Nat.le_refl _) _, wpF_nil ?_⟩
      have HO1 := Hd.mk (OwnB.alloc (w := wr.drew) HO.out (.cells (List.map b8 [d1, d2]).toArray 5))
      have HL : Hd ((hex (l.take j)).length ≤ 2814749767104) := ⟨by rw [hex_len, List.length_take]; omega⟩
      go_wp2_with ((with_reducible refine wpList_plain rfl fun K hK => W_appB (.tmp 14) (.tmp 25) wr.drew.heap.size 2 [d1, d2] (0, 0) [] HO1.out ?hp fun v' w' h2 h3 h4 => hK _ _ ?_); (case hp => exact ⟨rfl, rfl, by rw [List.append_nil]; exact blk_new _ _ _ _ _ rfl, by have := HL.out; simp only [List.length_cons, List.length_nil]; omega, by rw [sz_alloc]; show _ ≤ wr.heap.size + 1; omega⟩); have H2 := Hd.mk h2; have H3 := Hd.mk h3; clear h2 h3 h4)
      go_roundw
      case rel =>
        refine ⟨j + 1, by go_num, hlt, ?_, Below.app ((Below.drew HB.out).alloc hz _) H3.out HO1.out (by rw [sz_alloc]; show _ ≤ wr.heap.size + 1; omega) (Nat.le_refl _)⟩
        rw [hex_take l j hlt, ← HX.out]
        unfold hx2
        rw [← HD1.out, ← HD2.out]
        exact H2.out
      case measure => simp [intOf]; omega
    · have hv := HO.out
      rw [List.take_of_length_le (by omega)] at hv
      have hst := run_strof 35 hv Try.underlying35 9 Try.underlying9
      clear hv
      go_wp2
      go_ret
      exact ⟨rfl, HB.out⟩
end Go.Proofs.Ytdlgbokmfooeoaa
