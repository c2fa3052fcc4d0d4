import Derived.Test.YtkdakmddlkgjkaaHash
open Go.RowKit
namespace Go.Proofs.Ytkdakmddlkgjkaa
set_option maxRecDepth 100000
open Sha
def bl (m : List UInt8) : S8 := blocks (m.length / 64) V0 m
def rs (m : List UInt8) : List UInt8 := m.drop (64 * (m.length / 64))
/-- Block b holds a digest under way of the bytes m. -/
def HM (w : World) (b : Nat) (m : List UInt8) : Prop := HS w b (bl m) (rs m) m.length
theorem blocks_add (i j : Nat) (v : S8) (l : List UInt8) : blocks (i + j) v l = blocks j (blocks i v l) (l.drop (64 * i)) := by
  induction i generalizing v l with
  | zero => simp [blocks]
  | succ i ih =>
    rw [show i + 1 + j = (i + j) + 1 by omega, blocks, ih, blocks, List.drop_drop, show 64 + 64 * i = 64 * (i + 1) by omega]
theorem blocks_append (i : Nat) (v : S8) (l l' : List UInt8) (h : 64 * i ≤ l.length) : blocks i v (l ++ l') = blocks i v l := by
  induction i generalizing v l with
  | zero => simp [blocks]
  | succ i ih =>
    rw [blocks, blocks, List.take_append_of_le_length (by omega), List.drop_append_of_le_length (by omega), ih _ _ (by simp; omega)]
theorem rs_len (m : List UInt8) : (rs m).length = m.length % 64 := by simp [rs]; omega
theorem rs_append (m s : List UInt8) : rs m ++ s = (m ++ s).drop (64 * (m.length / 64)) := by
  rw [rs, List.drop_append_of_le_length (by omega)]
theorem len_split (m s : List UInt8) : (m ++ s).length / 64 = m.length / 64 + (rs m ++ s).length / 64 := by
  rw [List.length_append, List.length_append, rs_len]; omega
theorem bl_append (m s : List UInt8) : blocks ((rs m ++ s).length / 64) (bl m) (rs m ++ s) = bl (m ++ s) := by
  have h := len_split m s
  have h2 : blocks (m.length / 64) V0 (m ++ s) = blocks (m.length / 64) V0 m := blocks_append _ _ _ _ (by omega)
  unfold bl
  rw [h, blocks_add, h2, ← rs_append]
theorem rs_append2 (m s : List UInt8) : (rs m ++ s).drop (64 * ((rs m ++ s).length / 64)) = rs (m ++ s) := by
  have h := len_split m s
  conv => rhs; unfold rs
  rw [h, Nat.mul_add, ← List.drop_drop, ← rs_append]
theorem HSa.hm {w : World} {b : Nat} {m s : List UInt8} {n : Nat} (h : HSa w b (bl m) (rs m ++ s) n) (hn : n = (m ++ s).length) : HM w b (m ++ s) := by
  unfold HSa at h
  rw [bl_append, rs_append2, hn] at h
  exact h
theorem HM.nil {w : World} {b : Nat} (h : HS w b V0 [] 0) : HM w b [] := h
theorem HM.ext {w w' : World} {b : Nat} {m : List UInt8} (h : HM w b m) (hb : Below w.heap.size w w') : HM w' b m := by
  obtain ⟨rv, h1, h2, h3⟩ := h
  exact ⟨rv, blk_below h1 hb (blk_lt h1), h2.ext hb, h3⟩
theorem HM.lt {w : World} {b : Nat} {m : List UInt8} (h : HM w b m) : b < w.heap.size := by
  obtain ⟨rv, h1, h2, h3⟩ := h
  exact blk_lt h1
theorem write_m (b : Nat) (m : List UInt8) (s : ByteArray) (w : World) (hH : HM w b m) (hs : m.length + s.size ≤ 140737488355328) :
    Calls Try.prog 79 #[.pointer (some ⟨b, 0, none⟩), .string s] w fun e w' => e = .returned (.tuple #[]) ∧ HM w' b (m ++ s.data.toList) ∧ Upd (· = b) w w' :=
  (write_c b m.length (bl m) (rs m) s w hH (by omega) (by rw [rs_len]; omega)).mono fun e w' ⟨h1, h2, h3⟩ => ⟨h1, h2.hm (by simp), h3⟩
theorem sha_eq (m : List UInt8) : sha m = (bl (m ++ pad m.length)).text := rfl
theorem pad_len (n : Nat) : (pad n).length ≤ 100 := by simp [pad, be8]; omega
set_option maxRecDepth 100000 in
set_option maxHeartbeats 1000000 in
theorem sum_c (b : Nat) (m : List UInt8) (w : World) (hH : HM w b m) (hm : m.length ≤ 140737488355200) :
    Calls Try.prog 80 #[.pointer (some ⟨b, 0, none⟩)] w fun e w' => e = .returned (.string ⟨(sha m).toArray⟩) ∧ Below w.heap.size w w' := by
  obtain ⟨rv, hblk, hrd, hne⟩ := hH
  obtain ⟨ad, c, hrv⟩ : ∃ ad c, rv = .slice ad (rs m).length c := by obtain ⟨ad, c, q1, _⟩ := hrd; exact ⟨ad, c, q1⟩
  subst hrv
  generalize hrvl : (rs m).length = rl at *
  clear hrvl
  have c0 : w.cell? ⟨b, 0, none⟩ = some (.bool true) := blk_cell hblk 0
  have c10 : w.cell? ⟨b, 10, none⟩ = some (.int .i64 m.length) := blk_cell hblk 10
  have HBL := Hd.mk hblk
  have HRD := Hd.mk hrd
  have HNE := Hd.mk hne
  have HLT := Hd.mk (blk_lt hblk)
  clear hblk hrd hne
  go_enter Try.func80, Try.ntmps80
  go_wp2_with (first
    | (go_at_call 94; refine (there_c _ _ c0).mono ?_; rintro e w' ⟨rfl, rfl⟩)
    | (go_at_call 96; fail)
    | ((with_reducible refine L_load_row 148 (.tmp 8) b 148 (hcells (bl m) (.slice ad rl c) m.length) (0, 0) ?hl ?_); (case hl => exact ⟨rfl, HBL.out, by kernel_rfl, by kernel_rfl⟩))
    | ((with_reducible refine L_store_row 148 (.tmp 3) (.tmp 9) w.heap.size (hcells (bl m) (.slice ad rl c) m.length) 148 ?old ?hl2 ?_); (case hl2 => refine ⟨rfl, rfl, ?z1, ?z2, ?z3, ?z4⟩; (case z1 => exact blk_new w _ _ _ _ rfl); (case z2 => kernel_rfl); (case z3 => kernel_rfl); (case z4 => kernel_rfl));
       refine wpList_world (fun w1 => w1.heap[b]? = some (.cells (hcells (bl m) (.slice ad rl c) m.length) 148 (0, 0)) ∧ HM w1 w.heap.size m ∧ Below w.heap.size w w1 ∧ w.heap.size < w1.heap.size) ⟨?h1, ?h2, ?h3, ?h4⟩ ?_;
       (case h1 => exact blk_row_ne (blk_alloc HBL.out _) _ _ (by have := HLT.out; omega));
       (case h2 => exact ⟨_, setRow_heap _ _ _ _ _ _ (blk_new w _ _ _ _ rfl), HRD.out.ext (setRow_below ((Below.refl _ w).alloc (Nat.le_refl _) _) (Nat.le_refl _) _), fun hc => by have := HRD.out.lt _ hc; omega⟩);
       (case h3 => exact setRow_below ((Below.refl _ w).alloc (Nat.le_refl _) _) (Nat.le_refl _) _);
       (case h4 => rw [sz_setRow, sz_alloc]; omega);
       rintro w1 ⟨g1, g2, g3, g4⟩; have d10 : w1.cell? ⟨b, 10, none⟩ = some (.int .i64 m.length) := blk_cell g1 10; have G2 := Hd.mk g2; have G3 := Hd.mk g3; have G4 := Hd.mk g4; clear g1 g2 g3 g4))
  refine (ending_c m.length w1 (by omega)).mono ?_
  rintro e w2 ⟨v, rfl, hv, hb⟩
  have G5 := Hd.mk (G2.out.ext hb)
  have G6 := Hd.mk hb
  have hst := run_strof 38 hv Try.underlying38 9 Try.underlying9
  clear hv hb d10
  have hpl := pad_len m.length
  go_wp2_with fail
  clear hst
  refine (write_m w.heap.size m ⟨(pad m.length).toArray⟩ w2 G5.out (by show m.length + (pad m.length).length ≤ _; omega)).mono ?_
  rintro e w3 ⟨rfl, hm3, hu3⟩
  have G7 : Hd (Below w.heap.size w w3) := ⟨(G3.out.trans (G6.out.mono (by have := G4.out; omega))).trans (hu3.below (by have := G4.out; have := G6.out.size; omega) (fun k hk => by omega))⟩
  obtain ⟨rv, hblk, hrd, hne⟩ := hm3
  have hs := sha_eq m
  have e1 : m ++ (⟨(pad m.length).toArray⟩ : ByteArray).data.toList = m ++ pad m.length := rfl
  rw [e1] at hblk
  obtain ⟨z0, z1, z2, z3, z4, z5, z6, z7, hz⟩ : ∃ z0 z1 z2 z3 z4 z5 z6 z7, bl (m ++ pad m.length) = ⟨z0, z1, z2, z3, z4, z5, z6, z7⟩ := ⟨_, _, _, _, _, _, _, _, rfl⟩
  rw [hz] at hblk hs
  have d1 := blk_cell hblk 1
  have d2 := blk_cell hblk 2
  have d3 := blk_cell hblk 3
  have d4 := blk_cell hblk 4
  have d5 := blk_cell hblk 5
  have d6 := blk_cell hblk 6
  have d7 := blk_cell hblk 7
  have d8 := blk_cell hblk 8
  simp only [hcells, u32v, List.getElem?_toArray, List.getElem?_cons_zero, List.getElem?_cons_succ] at d1 d2 d3 d4 d5 d6 d7 d8
  have HS := Hd.mk hs
  clear hblk hrd hne hs hz e1 hu3
  go_wp2_with fail
  refine (text_c ⟨z0, z1, z2, z3, z4, z5, z6, z7⟩ w3).mono ?_
  rintro e w4 ⟨rfl, hb4⟩
  have G8 := Hd.mk hb4
  clear hb4
  go_wp2
  go_ret
  exact ⟨congrArg (fun l : List UInt8 => Ending.returned (.string ⟨l.toArray⟩)) HS.out.symm, G7.out.trans (G8.out.mono G7.out.size)⟩
theorem of_c (s : ByteArray) (w : World) (hs : s.size ≤ 140737488355200) :
    Calls Try.prog 53 #[.string s] w fun e w' => e = .returned (.string ⟨(sha s.data.toList).toArray⟩) ∧ Below w.heap.size w w' := by
  go_enter Try.func53, Try.ntmps53
  go_wp2_with fail
  refine (new_c w).mono ?_
  rintro e w1 ⟨b, rfl, hb0, hH, hb⟩
  have G1 := Hd.mk (HM.nil hH)
  have G2 := Hd.mk hb
  have G3 := Hd.mk hb0
  clear hH hb hb0
  go_wp2_with fail
  refine (write_m b [] s w1 G1.out (by simp; omega)).mono ?_
  rintro e w2 ⟨rfl, hm, hu⟩
  rw [List.nil_append] at hm
  have G4 := Hd.mk hm
  have G5 : Hd (Below w.heap.size w w2) := ⟨G2.out.trans (hu.below G2.out.size (fun k hk => by rw [hk]; exact G3.out))⟩
  clear hm hu
  go_wp2_with fail
  refine (sum_c b s.data.toList w2 G4.out (by simpa using hs)).mono ?_
  rintro e w3 ⟨rfl, hb3⟩
  have G6 := Hd.mk hb3
  clear hb3
  go_wp2
  go_ret
  exact ⟨rfl, G5.out.trans (G6.out.mono G5.out.size)⟩
end Go.Proofs.Ytkdakmddlkgjkaa
