import Derived.Deep.RegionHeld3
import Derived.StillTailTactics
import Derived.Test.YtkdakmddlkgjkaaDig1
import Derived.Test.YtkdakmddlkgjkaaMem
import Derived.Test.YtkdakmddlkgjkaaReg
open Go.RowKit
namespace Go.Proofs.Ytkdakmddlkgjkaa
set_option maxRecDepth 100000
open Sha
def arr (l : List UInt8) (k : Nat) : Array Value := ((sched l k ++ List.replicate (64 - k) 0).map u32v).toArray
def ZB : Array Value := ((List.replicate 64 (0 : UInt32)).map u32v).toArray
def nxt (l : List UInt8) (n : Nat) : UInt32 :=
  if n < 16 then word (l.drop (4 * n)) else (sched l n).getD (n - 16) 0 + s0 ((sched l n).getD (n - 15) 0) + (sched l n).getD (n - 7) 0 + s1 ((sched l n).getD (n - 2) 0)
theorem sched_succ (l : List UInt8) (n : Nat) : sched l (n + 1) = sched l n ++ [nxt l n] := rfl
theorem sched_len (l : List UInt8) (n : Nat) : (sched l n).length = n := by
  induction n with
  | zero => rfl
  | succ n ih => rw [sched_succ, List.length_append, ih]; rfl
theorem arr_get (l : List UInt8) (k i : Nat) (hi : i < k) : (arr l k)[i]? = some (u32v ((sched l k).getD i 0)) := by
  have := sched_len l k
  simp only [arr, List.getElem?_toArray, List.getElem?_map]
  rw [List.getElem?_append_left (by omega), List.getD_eq_getElem?_getD, List.getElem?_eq_getElem (by omega)]; rfl
theorem arr_get0 (l : List UInt8) (k i : Nat) (hi : k ≤ i) (h : i < 64) : (arr l k)[i]? = some (u32v 0) := by
  have := sched_len l k
  simp only [arr, List.getElem?_toArray, List.getElem?_map]
  rw [List.getElem?_append_right (by omega), List.getElem?_replicate, if_pos (by omega)]; rfl
theorem arr_size (l : List UInt8) (k : Nat) (hk : k ≤ 64) : (arr l k).size = 64 := by
  have := sched_len l k
  simp [arr, this]; omega
theorem arr_one (l : List UInt8) (k : Nat) : (arr l k).all (·.oneCell') = true := by
  simp only [arr, List.all_toArray, List.all_map]
  rw [List.all_eq_true]
  intro x _; rfl
theorem arr_64 (l : List UInt8) : arr l 64 = ((sched l 64).map u32v).toArray := by simp [arr]
theorem arr_set (l : List UInt8) (k : Nat) (hk : k < 64) : (arr l k).setIfInBounds k (u32v (nxt l k)) = arr l (k + 1) := by
  have h := sched_len l k
  simp only [arr, sched_succ, List.setIfInBounds_toArray]
  congr 1
  rw [show 64 - k = (64 - (k + 1)) + 1 by omega, List.replicate_succ, List.map_append, List.set_append_right _ _ (by simp [h])]
  simp [h]
def SpRel (B : Nat) (l : List UInt8) (w : World) (k : Nat) (wr : World) : Prop :=
  k ≤ 64 ∧ wr.heap[B + 1]? = some (.cells (arr l k) 152 (0, 0)) ∧ wr.heap[B]? = some (.cells ZB 152 (0, 0)) ∧ wr.heap.size = B + 2 ∧ Below B w wr
theorem SpRel.step {B : Nat} {l : List UInt8} {w wr : World} {k : Nat} (h : SpRel B l w k wr) (hk : k < 64) (n : Nat) (x : UInt32) (hx : x = nxt l k) :
    SpRel B l w (k + 1) ((wr.drewN n).setCell ⟨B + 1, k, none⟩ (.int .u32 (un x))) := by
  obtain ⟨h1, h2, h3, h4, h5⟩ := h
  subst hx
  refine ⟨hk, ?_, blk_set_ne (blk_drewN h3 n) _ _ (by simp), by simp [World.setCell, h4, World.drewN], (Below.drewN h5 n).setCell (by simp) _⟩
  rw [← arr_set l k hk]
  exact blk_set (blk_drewN h2 n) k _
theorem SpRel.start (s : ByteArray) (w : World) : SpRel w.heap.size s.data.toList w 0 ((w.alloc (.cells ZB 152)).alloc (.cells ZB 152)) := by
  have hz := sz_alloc w (.cells ZB 152)
  exact ⟨by omega, blk_new _ _ _ _ _ hz, blk_alloc (blk_new w ZB 152 _ _ rfl) _, by rw [sz_alloc, hz], ((Below.refl _ _).alloc (Nat.le_refl _) _).alloc (by omega) _⟩
set_option maxRecDepth 100000 in
theorem spread_c (s : ByteArray) (w : World) (hs : s.size = 64) : Calls Try.prog 101 #[.string s] w fun e w' => e = .returned (.agg ((sched s.data.toList 64).map u32v).toArray) ∧ Below w.heap.size w w' := by
  have hs1 : s.size ≤ 64 := by omega
  have hs2 : 64 ≤ s.size := by omega
  clear hs
  go_enter Try.func101, Try.ntmps101
  go_wp2
  go_loopw [9] (fun i wr => ∃ k : Nat, i = .int .i64 k ∧ SpRel w.heap.size s.data.toList w k wr) (fun i _ => 64 - (intOf i).toNat)
  case atStart => exact ⟨0, rfl, SpRel.start s w⟩
  case round =>
    obtain ⟨k, rfl, H⟩ := hrel
    have HH := Hd.mk H
    obtain ⟨hk, hA, hZ, hz, hb⟩ := H
    by_cases hlt : k < 64
    · by_cases h16 : k < 16
      · have c1 : wr.cell? ⟨w.heap.size + 1, k, none⟩ = some (u32v 0) := by rw [blk_cell hA, arr_get0 _ _ _ (by omega) hlt]
        have c2 : wr.frozen? ⟨w.heap.size + 1, k, none⟩ = false := blk_free hA k
        clear hA hZ hz hb
        go_wp2_with (go_at_call 103; refine (word_c _ _ (by simp; omega) (by simp; omega)).mono ?_; rintro e w' ⟨rfl, nq, rfl⟩)
        go_roundw
        case rel =>
          refine ⟨k + 1, by go_num, HH.out.step hlt nq _ ?_⟩
          rw [nxt, if_pos h16, List.take_of_length_le (by simp)]
        case measure => simp [intOf]; omega
      · obtain ⟨j, rfl⟩ : ∃ j, k = j + 16 := ⟨k - 16, by omega⟩
        have c1 : wr.cell? ⟨w.heap.size + 1, j + 16, none⟩ = some (u32v 0) := by rw [blk_cell hA, arr_get0 _ _ _ (by omega) hlt]
        have c2 : wr.frozen? ⟨w.heap.size + 1, j + 16, none⟩ = false := blk_free hA _
        obtain ⟨x3, e3⟩ : ∃ x, x = (sched s.data.toList (j + 16)).getD (j + 1) 0 := ⟨_, rfl⟩
        have c3 : wr.cell? ⟨w.heap.size + 1, j + 1, none⟩ = some (.int .u32 (un x3)) := by rw [blk_cell hA, arr_get _ _ _ (by omega), e3]; rfl
        have E3 := Hd.mk e3
        clear e3
        obtain ⟨x4, e4⟩ : ∃ x, x = (sched s.data.toList (j + 16)).getD (j + 14) 0 := ⟨_, rfl⟩
        have c4 : wr.cell? ⟨w.heap.size + 1, j + 14, none⟩ = some (.int .u32 (un x4)) := by rw [blk_cell hA, arr_get _ _ _ (by omega), e4]; rfl
        have E4 := Hd.mk e4
        clear e4
        obtain ⟨x5, e5⟩ : ∃ x, x = (sched s.data.toList (j + 16)).getD (j) 0 := ⟨_, rfl⟩
        have c5 : wr.cell? ⟨w.heap.size + 1, j, none⟩ = some (.int .u32 (un x5)) := by rw [blk_cell hA, arr_get _ _ _ (by omega), e5]; rfl
        have E5 := Hd.mk e5
        clear e5
        obtain ⟨x6, e6⟩ : ∃ x, x = (sched s.data.toList (j + 16)).getD (j + 9) 0 := ⟨_, rfl⟩
        have c6 : wr.cell? ⟨w.heap.size + 1, j + 9, none⟩ = some (.int .u32 (un x6)) := by rw [blk_cell hA, arr_get _ _ _ (by omega), e6]; rfl
        have E6 := Hd.mk e6
        clear e6
        clear hA hZ hz hb
        go_wp2
        go_quiet (fail)
        have A1 := u_xor
        have A2 := u_add
        have A3 := u_shr3
        have A4 := u_shr10
        go_wp2_with (go_at_call 102; refine (right_i _ _ _ (by omega) (by omega)).mono ?_; rintro e w' ⟨rfl, rfl⟩)
        refine region_qd 15 (by kernel_rfl) (by kernel_rfl) ?_
        simp only [List.take_succ_cons, List.take_zero, List.drop_succ_cons, List.drop_zero]
        repeat go_big_quiet_step (fail)
        refine wpQuiet_nil ?_
        intro nr
        go_wp2
        go_roundw
        case rel =>
          refine ⟨j + 16 + 1, by go_num, HH.out.step hlt (nq + nr) _ ?_⟩
          rw [nxt, if_neg (by omega), show j + 16 - 16 = j by omega, show j + 16 - 15 = j + 1 by omega, show j + 16 - 7 = j + 9 by omega, show j + 16 - 2 = j + 14 by omega,
            ← E3.out, ← E4.out, ← E5.out, ← E6.out]
          rfl
        case measure => simp [intOf]; omega
    · obtain rfl : k = 64 := by omega
      have hs64 : (Try.prog.info? 152).map (·.size) = some (arr s.data.toList 64).size := by rw [arr_size _ _ (by omega)]; kernel_rfl
      have hsz : ZB.size = (arr s.data.toList 64).size := by rw [arr_size _ _ (by omega)]; rfl
      have hone := arr_one s.data.toList 64
      have HA := Hd.mk hA
      have HZ := Hd.mk hZ
      have HB := Hd.mk hb
      have HS := Hd.mk hs64
      have HSZ := Hd.mk hsz
      have HO := Hd.mk hone
      clear hA hZ hz hb hs64 hsz hone HH
      go_wp2_with (first | (refine wpList_load_row rfl 152 _ rfl (w.heap.size + 1) rfl 152 (arr s.data.toList 64) (0, 0) _ HA.out Try.underlying152 rfl HS.out ?_) | (refine wpList_store_row rfl 152 _ _ rfl w.heap.size (arr s.data.toList 64) rfl rfl 152 ZB HZ.out HS.out HSZ.out HO.out ?_))
      refine bodyPost_ret (results_cell_row rfl _ _ w.heap.size 152 (arr s.data.toList 64) (0, 0) _ rfl (setRow_heap wr w.heap.size ZB _ 152 (0, 0) HZ.out) Try.underlying152 rfl HS.out) rfl ?_
      exact ⟨by rw [arr_64], setRow_below HB.out (Nat.le_refl _) _⟩
end Go.Proofs.Ytkdakmddlkgjkaa
