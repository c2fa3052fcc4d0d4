import Derived.Test.YtkdakmddlkgjkaaDk
import Derived.Outline
open Go.RowKit Go.Lib
namespace Go.Proofs.Ytkdakmddlkgjkaa
set_option maxRecDepth 100000
theorem read_nil (w : World) (i : Int) :
    Calls Try.prog 50 #[.pointer none, .int .i64 i] w fun e w' => e = .returned (.tuple #[.string ⟨#[]⟩, .int .i64 16]) ∧ w = w' := by
  go_enter Try.func50, Try.ntmps50
  go_wp2_with fail
  refine (wrong_nil w i).mono ?_
  rintro e w' ⟨rfl, rfl⟩
  go_wp2
  go_ret2
  exact ⟨rfl, rfl⟩
theorem read_off {w : World} {b : Nat} {D : Ds} {F : Nat → Prop} (h : IsDisk w b D F) (ho : D.off = true) (i : Int) :
    Calls Try.prog 50 #[.pointer (some ⟨b, 0, none⟩), .int .i64 i] w fun e w' => e = .returned (.tuple #[.string ⟨#[]⟩, .int .i64 7]) ∧ w = w' := by
  have hr : wr D i = 7 := by unfold wr; rw [if_pos ho]
  have HR := Hd.mk hr
  clear hr ho
  go_enter Try.func50, Try.ntmps50
  go_wp2_with fail
  refine (wrong_c h i).mono ?_
  rintro e w' ⟨rfl, rfl⟩
  rw [HR.out]
  go_wp2
  go_ret2
  exact ⟨rfl, rfl⟩
theorem OwnW.form {w : World} {base : Nat} {v : Value} {l : List (Nat × List UInt8)} (h : OwnW w base v l) : ∃ a c, v = .slice a l.length c := by
  obtain ⟨a, c, h1, _⟩ := Own.form h; exact ⟨a, c, h1⟩
theorem OwnW.at {w : World} {base : Nat} {v : Value} {l : List (Nat × List UInt8)} (h : OwnW w base v l) (k : Nat) (hk : k < l.length) :
    ∃ g c, v = .slice (some ⟨g, 0, none⟩) l.length c ∧ w.cell? ⟨g, k * 2, none⟩ = some (.int .i64 (l[k].1 : Int)) ∧ w.cell? ⟨g, k * 2 + 1, none⟩ = some (.string ⟨l[k].2.toArray⟩) := by
  obtain ⟨a, c, rfl, h1, h2⟩ := Own.form h
  cases a with
  | none => obtain ⟨h3, _⟩ := h1 rfl; omega
  | some x =>
    obtain ⟨g, rfl, _⟩ := h2 x rfl
    obtain ⟨q1, q2⟩ := wcells_at l k hk
    exact ⟨g, c, rfl, by rw [Own.cell h _ (by omega)]; exact q1, by rw [Own.cell h _ (by omega)]; exact q2⟩
theorem OwnS.at {w : World} {base : Nat} {v : Value} {l : List (List UInt8)} (h : OwnS w base v l) (k : Nat) (hk : k < l.length) :
    ∃ g c, v = .slice (some ⟨g, 0, none⟩) l.length c ∧ w.cell? ⟨g, k, none⟩ = some (.string ⟨l[k].toArray⟩) := by
  obtain ⟨a, c, rfl, h1, h2⟩ := Own.form h
  cases a with
  | none => obtain ⟨h3, _⟩ := h1 rfl; omega
  | some x =>
    obtain ⟨g, rfl, _⟩ := h2 x rfl
    refine ⟨g, c, rfl, ?_⟩
    rw [Own.cell h _ (by omega), List.getElem?_map, List.getElem?_eq_getElem hk]; rfl
set_option maxHeartbeats 400000 in
theorem read_c {w : World} {b : Nat} {D : Ds} {F : Nat → Prop} (h : IsDisk w b D F) (ho : D.off = false) (i : Nat) (hi : i < D.L.length) :
    Calls Try.prog 50 #[.pointer (some ⟨b, 0, none⟩), .int .i64 (i : Int)] w fun e w' => e = .returned (.tuple #[.string ⟨(D.get i).toArray⟩, .int .i64 0]) ∧ w = w' := by
  have hr : wr D (i : Int) = 0 := by unfold wr; rw [if_neg (by rw [ho]; decide), if_pos ⟨by omega, by omega⟩]
  have HW := wrong_c h (i : Int)
  have hok := h.ok
  obtain ⟨lv, wv, m, h⟩ := h
  rw [hr] at HW
  have hi62 : i < 4611686018427387904 := by have := hok.hi; omega
  have c2 : w.cell? ⟨b, 2, none⟩ = some (.map (some m)) := blk_cell h.blk 2
  cases hf : nwf D.W i with
  | none =>
    have hl := h.mp.look i hi62
    rw [hf] at hl
    simp only [Option.getD_none, Option.isSome_none] at hl
    obtain ⟨g, c, hv, hc⟩ := h.ls.at i hi
    subst hv
    have c0 : w.cell? ⟨b, 0, none⟩ = some (.slice (some ⟨g, 0, none⟩) D.L.length c) := blk_cell h.blk 0
    have e : D.get i = D.L[i] := by
      unfold Ds.get
      rw [(nwf_none hf).2, List.getD_eq_getElem?_getD, List.getElem?_eq_getElem hi]; rfl
    rw [e]
    obtain ⟨s, hs⟩ : ∃ s, D.L[i] = s := ⟨_, rfl⟩
    rw [hs] at hc ⊢
    obtain ⟨n, hn⟩ : ∃ n, D.L.length = n := ⟨_, rfl⟩
    rw [hn] at c0 hi
    clear h ho hok hf hs hn e hr
    go_enter Try.func50, Try.ntmps50
    go_wp2_with fail
    refine HW.mono ?_
    rintro e w' ⟨rfl, rfl⟩
    clear HW
    go_wp2
    go_ret2
    exact ⟨rfl, rfl⟩
  | some k =>
    have hl := h.mp.look i hi62
    rw [hf] at hl
    simp only [Option.getD_some, Option.isSome_some] at hl
    obtain ⟨hk, hk1, hk2⟩ := nwf_some hf
    obtain ⟨g, c, hv, _, hc⟩ := h.ws.at k hk
    subst hv
    have c1 : w.cell? ⟨b, 1, none⟩ = some (.slice (some ⟨g, 0, none⟩) D.W.length c) := blk_cell h.blk 1
    have e : D.get i = D.W[k].2 := by unfold Ds.get; exact hk2 _
    rw [e]
    obtain ⟨s, hs⟩ : ∃ s, D.W[k].2 = s := ⟨_, rfl⟩
    rw [hs] at hc ⊢
    obtain ⟨n, hn⟩ : ∃ n, D.W.length = n := ⟨_, rfl⟩
    rw [hn] at c1 hk
    clear h ho hok hf hs hn e hr hk1 hk2
    go_enter Try.func50, Try.ntmps50
    go_wp2_with fail
    refine HW.mono ?_
    rintro e w' ⟨rfl, rfl⟩
    clear HW
    go_wp2
    go_ret2
    exact ⟨rfl, rfl⟩
end Go.Proofs.Ytkdakmddlkgjkaa
open Go.RowKit Go.Lib
namespace Go.Proofs.Ytkdakmddlkgjkaa
set_option maxRecDepth 100000
/-- What settle is handed: which writes last. -/
def Cv (w : World) (F : Nat → Prop) (cv : Value) (p : Nat → Bool) : Prop :=
  (cv = .func (.func 63) #[] #[] ∧ p = fun _ => true) ∨
  ∃ g mask, cv = .func (.func 66) #[] #[.pointer (some ⟨g, 0, none⟩)] ∧ p = bit mask ∧ mask < 18446744073709551616 ∧ w.cell? ⟨g, 0, none⟩ = some (.int .u64 (mask : Int)) ∧ ¬ F g ∧ g < w.heap.size
theorem one_c (i : Int) (w : World) : Calls Try.prog 63 #[.int .i64 i] w fun e w' => e = .returned (.bool true) ∧ w = w' := by
  go_enter Try.func63, Try.ntmps63
  go_wp2
  go_ret
  exact ⟨rfl, rfl⟩
theorem wr64 (n : Nat) (h : n < 18446744073709551616) : IntKind.u64.wrap (n : Int) = n := by
  have : IntKind.u64.wrap (n : Int) = (n : Int) % 18446744073709551616 := by simp [IntKind.wrap, IntKind.bits, IntKind.signed]
  rw [this]; omega
theorem and_one (m : Nat) : bits .and .u64 (m : Int) 1 = ((m % 2 : Nat) : Int) := by
  show IntKind.u64.wrap (((BitVec.ofInt 64 (m : Int) &&& BitVec.ofInt 64 1).toNat : Nat) : Int) = _
  have e : (BitVec.ofInt 64 (m : Int) &&& BitVec.ofInt 64 1).toNat = m % 2 := by
    rw [BitVec.ofInt_natCast, BitVec.toNat_and, BitVec.toNat_ofNat, show (BitVec.ofInt 64 1).toNat = 1 by decide, Nat.and_one_is_mod]
    omega
  rw [e]; exact wr64 _ (by omega)
theorem bit_eq (mask k : Nat) : (bits .and .u64 ((mask : Int) / 2 ^ (k % 64)) 1 == 1) = bit mask k := by
  have e : (mask : Int) / 2 ^ (k % 64) = ((mask / 2 ^ (k % 64) : Nat) : Int) := by simp
  rw [e, and_one]
  unfold bit
  rw [Bool.eq_iff_iff, beq_iff_eq, decide_eq_true_eq]
  omega
theorem bit_c (k : Nat) (hk : k < 4611686018427387904) (mask : Nat) (w : World) (g : Nat) (hg : w.cell? ⟨g, 0, none⟩ = some (.int .u64 (mask : Int))) :
    Calls Try.prog 66 #[.int .i64 (k : Int), .pointer (some ⟨g, 0, none⟩)] w fun e w' => e = .returned (.bool (bit mask k)) ∧ w = w' := by
  go_enter Try.func66, Try.ntmps66
  go_wp2
  go_ret
  exact ⟨congrArg (fun b => Ending.returned (.bool b)) (bit_eq mask k), rfl⟩
structure SetAt (w wr : World) (b : Nat) (lv wv : Value) (m : Nat) (D : Ds) (F : Nat → Prop) (p : Nat → Bool) (k j : Nat) : Prop where
  blk : wr.heap[b]? = some (.cells (dcells lv wv m D) 109 (0, 0))
  ls : OwnS wr 0 lv (fl p 0 (D.W.take k) D.L)
  ws : OwnW wr 0 wv D.W
  mp : MapIs wr m D.gh (delF (D.W.take j) (nwf D.W))
  up : Upd F w wr
theorem fl_64 (p : Nat → Bool) : ∀ (W : List (Nat × List UInt8)) (k : Nat) (L : List (List UInt8)), (∀ s ∈ L, s.length = 64) → (∀ q ∈ W, q.2.length = 64) → ∀ s ∈ fl p k W L, s.length = 64
  | [], _, _, h, _ => h
  | (i, t) :: W, k, L, h, hW => by
    rw [fl]
    refine fl_64 p W _ _ ?_ fun q hq => hW q (by simp [hq])
    split
    · intro s hs
      rcases List.mem_or_eq_of_mem_set hs with h1 | rfl
      · exact h s h1
      · exact hW (i, s) (by simp)
    · exact h
theorem Own.set1 {w : World} {base g n c : Nat} {e : TypeId} {xs : List Value} (h : Own w base e 1 (.slice (some ⟨g, 0, none⟩) n c) n xs) (k : Nat) (_hk : k < n) (u : Value) :
    Own (w.setCell ⟨g, k, none⟩ u) base e 1 (.slice (some ⟨g, 0, none⟩) n c) n (xs.set k u) := by
  rcases h.2 with ⟨he, h0⟩ | ⟨g', cap, cur, fr, he, hb', hg, hf, hnc, hcm, hcs, htk⟩
  · cases he
  · simp only [Value.slice.injEq, Option.some.injEq, Addr.mk.injEq, and_true] at he
    obtain ⟨rfl, _, rfl⟩ := he
    refine ⟨by rw [List.length_set]; exact h.1, .inr ⟨g, c, _, fr, rfl, hb', blk_set hg k _, hf, hnc, hcm, by simpa using hcs, ?_⟩⟩
    rw [Array.toList_setIfInBounds, List.take_set, htk]
theorem Own.free {w : World} {base g n c size : Nat} {e : TypeId} {xs : List Value} (h : Own w base e size (.slice (some ⟨g, 0, none⟩) n c) n xs) (k : Nat) (hk : k < n * size) : w.frozen? ⟨g, k, none⟩ = false := by
  rcases h.2 with ⟨he, h0⟩ | ⟨g', cap, cur, fr, he, hb', hg, hf, hnc, hcm, hcs, htk⟩
  · cases he
  · simp only [Value.slice.injEq, Option.some.injEq, Addr.mk.injEq, and_true] at he
    obtain ⟨rfl, _, rfl⟩ := he
    have := Nat.mul_le_mul_right size hnc
    exact (row_spare (w := w) hg hf hcs k (by omega)).2
theorem OwnS.set {w : World} {base g n c : Nat} {l : List (List UInt8)} (h : OwnS w base (.slice (some ⟨g, 0, none⟩) n c) l) (hn : n = l.length) (k : Nat) (hk : k < l.length) (s : List UInt8) :
    OwnS (w.setCell ⟨g, k, none⟩ (.string ⟨s.toArray⟩)) base (.slice (some ⟨g, 0, none⟩) n c) (l.set k s) := by
  subst hn
  unfold OwnS
  rw [List.length_set, List.map_set]
  exact Own.set1 h k hk _
section
variable {w wr w1 : World} {b : Nat} {lv wv : Value} {m : Nat} {D : Ds} {F : Nat → Prop} {p : Nat → Bool} {k j : Nat}
theorem SetAt.ext (h : SetAt w wr b lv wv m D F p k j) (hb : Below wr.heap.size wr w1) : SetAt w w1 b lv wv m D F p k j :=
  ⟨by rw [hb.block b (blk_lt h.blk)]; exact h.blk, h.ls.keep fun j hj => hb.block j (h.ls.lt j hj).2, h.ws.keep fun j hj => hb.block j (h.ws.lt j hj).2, h.mp.keep (hb.block m h.mp.lt), h.up.ext hb⟩
theorem fl_take (p : Nat → Bool) (W : List (Nat × List UInt8)) (L : List (List UInt8)) (k : Nat) (hk : k < W.length) :
    fl p 0 (W.take (k + 1)) L = if p k then (fl p 0 (W.take k) L).set W[k].1 W[k].2 else fl p 0 (W.take k) L := by
  rw [List.take_succ_eq_append_getElem hk, fl_append, List.length_take, Nat.min_eq_left (by omega), Nat.zero_add]
  rfl
theorem delF_take (W : List (Nat × List UInt8)) (f : Nat → Option Nat) (k : Nat) (hk : k < W.length) : delF (W.take (k + 1)) f = updF (delF (W.take k) f) W[k].1 none := by
  rw [List.take_succ_eq_append_getElem hk, delF_append]; rfl
/-- A block's bytes are put where they last. -/
theorem SetAt.put (H : DiskAt w b lv wv m D F) (h : SetAt w wr b lv wv m D F p k j) (hk : k < D.W.length) (hp : p k = true) (g c : Nat) (hl : lv = .slice (some ⟨g, 0, none⟩) D.L.length c) (nr : Nat) :
    SetAt w ((wr.drewN nr).setCell ⟨g, D.W[k].1, none⟩ (.string ⟨D.W[k].2.toArray⟩)) b lv wv m D F p (k + 1) j := by
  have hll : (fl p 0 (D.W.take k) D.L).length = D.L.length := fl_len _ _ _ _
  have hi := (H.ok.w64 D.W[k] (List.getElem_mem hk)).1
  have hgb : g ≠ b := fun e => H.lb (by rw [hl, e]; rfl)
  have hgm : g ≠ m := fun e => H.mne.2.1 (by rw [hl, e]; rfl)
  have hgw : wv.ownBlock ≠ some g := H.lw g (by rw [hl]; rfl)
  refine ⟨blk_set_ne (blk_drewN h.blk nr) _ _ (fun e => hgb e.symm), ?_, ?_, ?_, ?_⟩
  · rw [fl_take p D.W D.L k hk, if_pos hp, hl]
    have h2 := h.ls
    rw [hl] at h2
    exact OwnS.set (w := wr.drewN nr) h2 hll.symm D.W[k].1 (by rw [hll]; exact hi) _
  · exact Own.setCell (w := wr.drewN nr) h.ws _ _ hgw
  · exact h.mp.keep (w' := (wr.drewN nr).setCell _ _) (Below.heap_setCell _ _ _ _ (fun e => hgm e.symm))
  · exact (h.up.drewN nr).setCell (p := ⟨g, D.W[k].1, none⟩) (H.fl g (by rw [hl]; rfl)) _
theorem SetAt.skip (h : SetAt w wr b lv wv m D F p k j) (hk : k < D.W.length) (hp : p k = false) : SetAt w wr b lv wv m D F p (k + 1) j :=
  ⟨h.blk, by rw [fl_take p D.W D.L k hk, if_neg (by rw [hp]; decide)]; exact h.ls, h.ws, h.mp, h.up⟩
theorem SetAt.del (H : DiskAt w b lv wv m D F) (h : SetAt w wr b lv wv m D F p k j) (hj : j < D.W.length) (nr : Nat) (hm : MapIs w1 m D.gh (updF (delF (D.W.take j) (nwf D.W)) D.W[j].1 none)) (hg : (wr.drewN nr).grownBy w1 (some m)) :
    SetAt w w1 b lv wv m D F p k (j + 1) := by
  have hmn := H.mne
  have hbl : ∀ x, x < wr.heap.size → x ≠ m → w1.heap[x]? = wr.heap[x]? := fun x hx hxm => hg.block x hx (fun e => hxm (by cases e; rfl))
  refine ⟨by rw [hbl b (blk_lt h.blk) (fun e => hmn.1 e.symm)]; exact h.blk, h.ls.keep fun x hx => hbl x (h.ls.lt x hx).2 (fun e => hmn.2.1 (by rw [hx, e])), h.ws.keep fun x hx => hbl x (h.ws.lt x hx).2 (fun e => hmn.2.2 (by rw [hx, e])), by rw [delF_take _ _ _ hj]; exact hm, ?_⟩
  exact h.up.trans ⟨hg.os, hg.tape, hg.output, hg.size, fun x hx hxF => hbl x hx (fun e => hxF (by rw [e]; exact H.fm))⟩
end
theorem SetAt.done {w wr : World} {b : Nat} {lv wv : Value} {m : Nat} {D : Ds} {F : Nat → Prop} {p : Nat → Bool} {k : Nat} (H : DiskAt w b lv wv m D F) (h : SetAt w wr b lv wv m D F p k k) (hk : k = D.W.length) :
    IsDisk (wr.setCell ⟨b, 1, none⟩ (.slice none 0 0)) b (D.settle p) F ∧ Upd F w (wr.setCell ⟨b, 1, none⟩ (.slice none 0 0)) := by
  subst hk
  have hu : Upd F w (wr.setCell ⟨b, 1, none⟩ (.slice none 0 0)) := h.up.setCell (p := ⟨b, 1, none⟩) H.fb _
  have hls := h.ls
  have hmp := h.mp
  rw [List.take_length] at hls hmp
  refine ⟨⟨lv, .slice none 0 0, m, ?_, ?_, Own.nil _ _ _ _, ?_, H.lb, by simp [Value.ownBlock], by simp [Value.ownBlock], H.fb, H.fm, H.fl, by simp [Value.ownBlock], ?_, ?_⟩, hu⟩
  · rw [blk_set h.blk]; rfl
  · exact Own.setCell hls _ _ H.lb
  · exact (hmp.keep (Below.heap_setCell _ _ _ _ H.mne.1)).congr fun i => delF_nwf D.W i
  · exact fun x hx => Nat.lt_of_lt_of_le (H.lt x hx) hu.size
  · have ok := H.ok
    refine ⟨by rw [Ds.settle, fl_len]; exact ok.lo, by rw [Ds.settle, fl_len]; exact ok.hi, ?_, by simp [Ds.settle], by simp [Ds.settle], ok.opb, ok.ghb, ok.aft, ok.mask⟩
    exact fl_64 p D.W 0 D.L ok.l64 fun q hq => (ok.w64 q hq).2
theorem capt {w wr : World} {b : Nat} {lv wv : Value} {m : Nat} {D : Ds} {F : Nat → Prop} {p : Nat → Bool} {k j gm mask : Nat} (h : SetAt w wr b lv wv m D F p k j) (o : Obj)
    (hgm : w.cell? ⟨gm, 0, none⟩ = some (.int .u64 (mask : Int)) ∧ ¬ F gm ∧ gm < w.heap.size) : (wr.alloc o).cell? ⟨gm, 0, none⟩ = some (.int .u64 (mask : Int)) := by
  have h2 := (h.ext ((Below.refl _ _).alloc (Nat.le_refl _) o)).up.block gm hgm.2.2 hgm.2.1
  rw [World.cell?_of_block (w := w) (a := ⟨gm, 0, none⟩) h2]
  exact hgm.1
set_option maxHeartbeats 1000000 in
theorem settle_one {w : World} {b : Nat} {D : Ds} {F : Nat → Prop} (h : IsDisk w b D F) :
    Calls Try.prog 62 #[.pointer (some ⟨b, 0, none⟩), .func (.func 63) #[] #[]] w fun e w' => e = .returned (.tuple #[]) ∧ IsDisk w' b (D.settle (fun _ => true)) F ∧ Upd F w w' := by
  obtain ⟨lv, wv, m, h⟩ := h
  obtain ⟨a, c, rfl⟩ := OwnW.form h.ws
  have c1 : w.cell? ⟨b, 1, none⟩ = some (.slice a D.W.length c) := blk_cell h.blk 1
  obtain ⟨p, hp⟩ : ∃ p, p = (fun _ => true) := ⟨_, rfl⟩
  rw [← hp]
  have HP := Hd.mk hp
  have hwb : D.W.length < 4611686018427387904 := by have := h.ok.wops; have := h.ok.ghb; omega
  have H := Hd.mk h
  clear h hp
  go_enter Try.func62, Try.ntmps62
  go_wp2
  go_loopw [11] (fun x wr => ∃ k : Nat, x = .int .i64 (k : Int) ∧ k ≤ D.W.length ∧ Hd (SetAt w wr b lv (.slice a D.W.length c) m D F p k k)) (fun x _ => D.W.length - (intOf x).toNat)
  case atStart => exact ⟨0, rfl, Nat.zero_le _, ⟨⟨H.out.blk, H.out.ls, H.out.ws, H.out.mp, Upd.refl _ _⟩⟩⟩
  case round =>
    clear c1
    obtain ⟨k, rfl, hk, HS⟩ := hrel
    by_cases hlt : k < D.W.length
    · obtain ⟨g, c', hv, q1, q2⟩ := HS.out.ws.at k hlt
      cases hv
      have hWk := H.out.ok.w64 D.W[k] (List.getElem_mem hlt)
      obtain ⟨i, hi⟩ : ∃ i, D.W[k].1 = i := ⟨_, rfl⟩
      obtain ⟨s, hs⟩ : ∃ s, D.W[k].2 = s := ⟨_, rfl⟩
      rw [hi] at q1 hWk
      rw [hs] at q2 hWk
      obtain ⟨hil, hsl⟩ := hWk
      have HI := Hd.mk hi
      have HSS := Hd.mk hs
      obtain ⟨N, hN⟩ : ∃ N, wr.heap.size = N := ⟨_, rfl⟩
      have HN := Hd.mk hN
      have HSL := Hd.mk hsl
      clear hi hs hN hsl
      go_wp2_with fail
      refine (show Calls Try.prog 63 #[.int .i64 (k : Int)] _ (fun e w' => e = .returned (.bool (p k)) ∧ _ = w') from by rw [HP.out]; exact one_c _ _).mono ?_
      rintro e w1 ⟨rfl, rfl⟩
      rw [HN.out]
      obtain ⟨q, hq⟩ : ∃ q, p k = q := ⟨_, rfl⟩
      rw [hq]
      have HQ := Hd.mk hq
      clear hq
      cases q with
      | true =>
        go_wp2_with fail
        refine wp_world (fun w1 => SetAt w w1 b lv (.slice (some ⟨g, 0, none⟩) D.W.length c) m D F p k k ∧ w1.heap[N]? = some (.cells #[.int .i64 (i : Int), .string ⟨s.toArray⟩] 112 (0, 0))) ⟨HS.out.ext ((Below.refl _ _).alloc (Nat.le_refl _) _), blk_new _ _ _ _ _ HN.out⟩ ?_
        rintro w1 ⟨g1, g2⟩
        have G1 := Hd.mk g1
        have G2 := Hd.mk g2
        clear g1 g2 q1 q2
        have n0 : w1.cell? ⟨N, 0, none⟩ = some (.int .i64 (i : Int)) := blk_cell G2.out 0
        have n1 : w1.cell? ⟨N, 1, none⟩ = some (.string ⟨s.toArray⟩) := blk_cell G2.out 1
        obtain ⟨gl, cl, hlv, _⟩ := H.out.ls.at i hil
        have l0 : w1.cell? ⟨b, 0, none⟩ = some (.slice (some ⟨gl, 0, none⟩) D.L.length cl) := by rw [blk_cell G1.out.blk 0]; exact congrArg some hlv
        obtain ⟨s0, l1⟩ : ∃ s0, w1.cell? ⟨gl, i, none⟩ = some s0 := by
          have h2 := G1.out.ls
          rw [hlv] at h2
          have hll : (fl p 0 (D.W.take k) D.L).length = D.L.length := fl_len _ _ _ _
          exact ⟨_, by rw [Own.cell (n := D.L.length) (by rw [← hll]; rw [← hll] at h2; exact h2) i (by omega), List.getElem?_eq_getElem (by rw [List.length_map, hll]; exact hil)]⟩
        have l2 : w1.frozen? ⟨gl, i, none⟩ = false := by
          have h2 := G1.out.ls
          rw [hlv] at h2
          have hll : (fl p 0 (D.W.take k) D.L).length = D.L.length := fl_len _ _ _ _
          exact Own.free (n := D.L.length) (by rw [← hll]; rw [← hll] at h2; exact h2) i (by omega)
        have HLV := Hd.mk hlv
        clear hlv
        refine region_qd 9 (by kernel_rfl) (by kernel_rfl) ?_
        simp only [List.take_succ_cons, List.take_zero, List.drop_succ_cons, List.drop_zero]
        repeat go_big_quiet_step (fail)
        refine wpQuiet_nil ?_
        intro nr
        go_wp2_with fail
        refine wp_world (fun w2 => SetAt w w2 b lv (.slice (some ⟨g, 0, none⟩) D.W.length c) m D F p (k + 1) k ∧ w2.heap[N]? = some (.cells #[.int .i64 (i : Int), .string ⟨s.toArray⟩] 112 (0, 0))) ⟨?_, ?_⟩ ?_
        · have h2 := SetAt.put H.out G1.out hlt HQ.out gl cl HLV.out nr
          rw [HI.out, HSS.out] at h2
          exact h2
        · refine blk_set_ne (blk_drewN G2.out nr) _ _ (fun e => ?_)
          have h2 := HS.out.ls.lt gl (by rw [HLV.out]; rfl)
          rw [HN.out] at h2
          have e2 : N = gl := e
          omega
        clear l0 l1 l2 n0 n1 G1 G2
        rintro w2 ⟨g1, g2⟩
        have G1 := Hd.mk g1
        have G2 := Hd.mk g2
        clear g1 g2
        have n0 : w2.cell? ⟨N, 0, none⟩ = some (.int .i64 (i : Int)) := blk_cell G2.out 0
        have m0 : w2.cell? ⟨b, 2, none⟩ = some (.map (some m)) := blk_cell G1.out.blk 2
        have hi62 : i < 4611686018427387904 := by have := H.out.ok.hi; omega
        refine region_qd 6 (by kernel_rfl) (by kernel_rfl) ?_
        simp only [List.take_succ_cons, List.take_zero, List.drop_succ_cons, List.drop_zero]
        repeat go_big_quiet_step (fail)
        refine wpQuiet_nil ?_
        intro nr2
        refine wpList_plain rfl fun K hK => W_mapdrop (.tmp 31) (.tmp 33) i (G1.out.mp.keep (w' := w2.drewN nr2) rfl) ⟨rfl, rfl, hi62⟩ fun w3 h1 h2 h3 => hK _ _ ?_
        have G3 : Hd (SetAt w w3 b lv (.slice (some ⟨g, 0, none⟩) D.W.length c) m D F p (k + 1) (k + 1)) := ⟨SetAt.del H.out G1.out hlt nr2 (by rw [HI.out]; exact h1) h2⟩
        clear hK h1 h2 h3 n0 m0 G1 G2
        go_wp2_with fail
        go_roundw
        case rel => exact ⟨k + 1, by go_num, hlt, G3⟩
        case measure => simp [intOf]; omega
      | false =>
        go_wp2_with fail
        refine wp_world (fun w1 => SetAt w w1 b lv (.slice (some ⟨g, 0, none⟩) D.W.length c) m D F p k k ∧ w1.heap[N]? = some (.cells #[.int .i64 (i : Int), .string ⟨s.toArray⟩] 112 (0, 0))) ⟨HS.out.ext ((Below.refl _ _).alloc (Nat.le_refl _) _), blk_new _ _ _ _ _ HN.out⟩ ?_
        rintro w1 ⟨g1, g2⟩
        have G1 := Hd.mk g1
        have G2 := Hd.mk g2
        clear g1 g2 q1 q2
        have n0 : w1.cell? ⟨N, 0, none⟩ = some (.int .i64 (i : Int)) := blk_cell G2.out 0
        have n1 : w1.cell? ⟨N, 1, none⟩ = some (.string ⟨s.toArray⟩) := blk_cell G2.out 1
        have G3 : Hd (SetAt w w1 b lv (.slice (some ⟨g, 0, none⟩) D.W.length c) m D F p (k + 1) k) := ⟨G1.out.skip hlt HQ.out⟩
        clear n0 n1 G1
        have G1 := G3
        clear G3
        obtain ⟨w2, hw2⟩ : ∃ w2, w2 = w1 := ⟨_, rfl⟩
        subst hw2
        have n0 : w2.cell? ⟨N, 0, none⟩ = some (.int .i64 (i : Int)) := blk_cell G2.out 0
        have m0 : w2.cell? ⟨b, 2, none⟩ = some (.map (some m)) := blk_cell G1.out.blk 2
        have hi62 : i < 4611686018427387904 := by have := H.out.ok.hi; omega
        refine region_qd 6 (by kernel_rfl) (by kernel_rfl) ?_
        simp only [List.take_succ_cons, List.take_zero, List.drop_succ_cons, List.drop_zero]
        repeat go_big_quiet_step (fail)
        refine wpQuiet_nil ?_
        intro nr2
        refine wpList_plain rfl fun K hK => W_mapdrop (.tmp 31) (.tmp 33) i (G1.out.mp.keep (w' := w2.drewN nr2) rfl) ⟨rfl, rfl, hi62⟩ fun w3 h1 h2 h3 => hK _ _ ?_
        have G3 : Hd (SetAt w w3 b lv (.slice (some ⟨g, 0, none⟩) D.W.length c) m D F p (k + 1) (k + 1)) := ⟨SetAt.del H.out G1.out hlt nr2 (by rw [HI.out]; exact h1) h2⟩
        clear hK h1 h2 h3 n0 m0 G1 G2
        go_wp2_with fail
        go_roundw
        case rel => exact ⟨k + 1, by go_num, hlt, G3⟩
        case measure => simp [intOf]; omega
    · have hkn : k = D.W.length := by omega
      have c1' : wr.cell? ⟨b, 1, none⟩ = some (.slice a D.W.length c) := blk_cell HS.out.blk 1
      have f1' : wr.frozen? ⟨b, 1, none⟩ = false := blk_free HS.out.blk 1
      have HK := Hd.mk hkn
      clear hkn
      go_wp2_with fail
      go_end0
      exact ⟨rfl, SetAt.done H.out HS.out HK.out⟩
set_option maxHeartbeats 1000000 in
theorem settle_bit {w : World} {b : Nat} {D : Ds} {F : Nat → Prop} (h : IsDisk w b D F) (gm mask : Nat) (hgm : w.cell? ⟨gm, 0, none⟩ = some (.int .u64 (mask : Int)) ∧ ¬ F gm ∧ gm < w.heap.size) :
    Calls Try.prog 62 #[.pointer (some ⟨b, 0, none⟩), .func (.func 66) #[] #[.pointer (some ⟨gm, 0, none⟩)]] w fun e w' => e = .returned (.tuple #[]) ∧ IsDisk w' b (D.settle (bit mask)) F ∧ Upd F w w' := by
  obtain ⟨lv, wv, m, h⟩ := h
  obtain ⟨a, c, rfl⟩ := OwnW.form h.ws
  have c1 : w.cell? ⟨b, 1, none⟩ = some (.slice a D.W.length c) := blk_cell h.blk 1
  obtain ⟨p, hp⟩ : ∃ p, p = (bit mask) := ⟨_, rfl⟩
  rw [← hp]
  have HP := Hd.mk hp
  have hwb : D.W.length < 4611686018427387904 := by have := h.ok.wops; have := h.ok.ghb; omega
  have H := Hd.mk h
  have HGM := Hd.mk hgm
  clear hgm h hp
  go_enter Try.func62, Try.ntmps62
  go_wp2
  go_loopw [11] (fun x wr => ∃ k : Nat, x = .int .i64 (k : Int) ∧ k ≤ D.W.length ∧ Hd (SetAt w wr b lv (.slice a D.W.length c) m D F p k k)) (fun x _ => D.W.length - (intOf x).toNat)
  case atStart => exact ⟨0, rfl, Nat.zero_le _, ⟨⟨H.out.blk, H.out.ls, H.out.ws, H.out.mp, Upd.refl _ _⟩⟩⟩
  case round =>
    clear c1
    obtain ⟨k, rfl, hk, HS⟩ := hrel
    by_cases hlt : k < D.W.length
    · obtain ⟨g, c', hv, q1, q2⟩ := HS.out.ws.at k hlt
      cases hv
      have hWk := H.out.ok.w64 D.W[k] (List.getElem_mem hlt)
      obtain ⟨i, hi⟩ : ∃ i, D.W[k].1 = i := ⟨_, rfl⟩
      obtain ⟨s, hs⟩ : ∃ s, D.W[k].2 = s := ⟨_, rfl⟩
      rw [hi] at q1 hWk
      rw [hs] at q2 hWk
      obtain ⟨hil, hsl⟩ := hWk
      have HI := Hd.mk hi
      have HSS := Hd.mk hs
      obtain ⟨N, hN⟩ : ∃ N, wr.heap.size = N := ⟨_, rfl⟩
      have HN := Hd.mk hN
      have HSL := Hd.mk hsl
      clear hi hs hN hsl
      go_wp2_with fail
      refine (show Calls Try.prog 66 #[.int .i64 (k : Int), .pointer (some ⟨gm, 0, none⟩)] _ (fun e w' => e = .returned (.bool (p k)) ∧ _ = w') from by rw [HP.out]; exact bit_c k (by omega) mask _ gm (capt HS.out _ HGM.out)).mono ?_
      rintro e w1 ⟨rfl, rfl⟩
      rw [HN.out]
      obtain ⟨q, hq⟩ : ∃ q, p k = q := ⟨_, rfl⟩
      rw [hq]
      have HQ := Hd.mk hq
      clear hq
      cases q with
      | true =>
        go_wp2_with fail
        refine wp_world (fun w1 => SetAt w w1 b lv (.slice (some ⟨g, 0, none⟩) D.W.length c) m D F p k k ∧ w1.heap[N]? = some (.cells #[.int .i64 (i : Int), .string ⟨s.toArray⟩] 112 (0, 0))) ⟨HS.out.ext ((Below.refl _ _).alloc (Nat.le_refl _) _), blk_new _ _ _ _ _ HN.out⟩ ?_
        rintro w1 ⟨g1, g2⟩
        have G1 := Hd.mk g1
        have G2 := Hd.mk g2
        clear g1 g2 q1 q2
        have n0 : w1.cell? ⟨N, 0, none⟩ = some (.int .i64 (i : Int)) := blk_cell G2.out 0
        have n1 : w1.cell? ⟨N, 1, none⟩ = some (.string ⟨s.toArray⟩) := blk_cell G2.out 1
        obtain ⟨gl, cl, hlv, _⟩ := H.out.ls.at i hil
        have l0 : w1.cell? ⟨b, 0, none⟩ = some (.slice (some ⟨gl, 0, none⟩) D.L.length cl) := by rw [blk_cell G1.out.blk 0]; exact congrArg some hlv
        obtain ⟨s0, l1⟩ : ∃ s0, w1.cell? ⟨gl, i, none⟩ = some s0 := by
          have h2 := G1.out.ls
          rw [hlv] at h2
          have hll : (fl p 0 (D.W.take k) D.L).length = D.L.length := fl_len _ _ _ _
          exact ⟨_, by rw [Own.cell (n := D.L.length) (by rw [← hll]; rw [← hll] at h2; exact h2) i (by omega), List.getElem?_eq_getElem (by rw [List.length_map, hll]; exact hil)]⟩
        have l2 : w1.frozen? ⟨gl, i, none⟩ = false := by
          have h2 := G1.out.ls
          rw [hlv] at h2
          have hll : (fl p 0 (D.W.take k) D.L).length = D.L.length := fl_len _ _ _ _
          exact Own.free (n := D.L.length) (by rw [← hll]; rw [← hll] at h2; exact h2) i (by omega)
        have HLV := Hd.mk hlv
        clear hlv
        refine region_qd 9 (by kernel_rfl) (by kernel_rfl) ?_
        simp only [List.take_succ_cons, List.take_zero, List.drop_succ_cons, List.drop_zero]
        repeat go_big_quiet_step (fail)
        refine wpQuiet_nil ?_
        intro nr
        go_wp2_with fail
        refine wp_world (fun w2 => SetAt w w2 b lv (.slice (some ⟨g, 0, none⟩) D.W.length c) m D F p (k + 1) k ∧ w2.heap[N]? = some (.cells #[.int .i64 (i : Int), .string ⟨s.toArray⟩] 112 (0, 0))) ⟨?_, ?_⟩ ?_
        · have h2 := SetAt.put H.out G1.out hlt HQ.out gl cl HLV.out nr
          rw [HI.out, HSS.out] at h2
          exact h2
        · refine blk_set_ne (blk_drewN G2.out nr) _ _ (fun e => ?_)
          have h2 := HS.out.ls.lt gl (by rw [HLV.out]; rfl)
          rw [HN.out] at h2
          have e2 : N = gl := e
          omega
        clear l0 l1 l2 n0 n1 G1 G2
        rintro w2 ⟨g1, g2⟩
        have G1 := Hd.mk g1
        have G2 := Hd.mk g2
        clear g1 g2
        have n0 : w2.cell? ⟨N, 0, none⟩ = some (.int .i64 (i : Int)) := blk_cell G2.out 0
        have m0 : w2.cell? ⟨b, 2, none⟩ = some (.map (some m)) := blk_cell G1.out.blk 2
        have hi62 : i < 4611686018427387904 := by have := H.out.ok.hi; omega
        refine region_qd 6 (by kernel_rfl) (by kernel_rfl) ?_
        simp only [List.take_succ_cons, List.take_zero, List.drop_succ_cons, List.drop_zero]
        repeat go_big_quiet_step (fail)
        refine wpQuiet_nil ?_
        intro nr2
        refine wpList_plain rfl fun K hK => W_mapdrop (.tmp 31) (.tmp 33) i (G1.out.mp.keep (w' := w2.drewN nr2) rfl) ⟨rfl, rfl, hi62⟩ fun w3 h1 h2 h3 => hK _ _ ?_
        have G3 : Hd (SetAt w w3 b lv (.slice (some ⟨g, 0, none⟩) D.W.length c) m D F p (k + 1) (k + 1)) := ⟨SetAt.del H.out G1.out hlt nr2 (by rw [HI.out]; exact h1) h2⟩
        clear hK h1 h2 h3 n0 m0 G1 G2
        go_wp2_with fail
        go_roundw
        case rel => exact ⟨k + 1, by go_num, hlt, G3⟩
        case measure => simp [intOf]; omega
      | false =>
        go_wp2_with fail
        refine wp_world (fun w1 => SetAt w w1 b lv (.slice (some ⟨g, 0, none⟩) D.W.length c) m D F p k k ∧ w1.heap[N]? = some (.cells #[.int .i64 (i : Int), .string ⟨s.toArray⟩] 112 (0, 0))) ⟨HS.out.ext ((Below.refl _ _).alloc (Nat.le_refl _) _), blk_new _ _ _ _ _ HN.out⟩ ?_
        rintro w1 ⟨g1, g2⟩
        have G1 := Hd.mk g1
        have G2 := Hd.mk g2
        clear g1 g2 q1 q2
        have n0 : w1.cell? ⟨N, 0, none⟩ = some (.int .i64 (i : Int)) := blk_cell G2.out 0
        have n1 : w1.cell? ⟨N, 1, none⟩ = some (.string ⟨s.toArray⟩) := blk_cell G2.out 1
        have G3 : Hd (SetAt w w1 b lv (.slice (some ⟨g, 0, none⟩) D.W.length c) m D F p (k + 1) k) := ⟨G1.out.skip hlt HQ.out⟩
        clear n0 n1 G1
        have G1 := G3
        clear G3
        obtain ⟨w2, hw2⟩ : ∃ w2, w2 = w1 := ⟨_, rfl⟩
        subst hw2
        have n0 : w2.cell? ⟨N, 0, none⟩ = some (.int .i64 (i : Int)) := blk_cell G2.out 0
        have m0 : w2.cell? ⟨b, 2, none⟩ = some (.map (some m)) := blk_cell G1.out.blk 2
        have hi62 : i < 4611686018427387904 := by have := H.out.ok.hi; omega
        refine region_qd 6 (by kernel_rfl) (by kernel_rfl) ?_
        simp only [List.take_succ_cons, List.take_zero, List.drop_succ_cons, List.drop_zero]
        repeat go_big_quiet_step (fail)
        refine wpQuiet_nil ?_
        intro nr2
        refine wpList_plain rfl fun K hK => W_mapdrop (.tmp 31) (.tmp 33) i (G1.out.mp.keep (w' := w2.drewN nr2) rfl) ⟨rfl, rfl, hi62⟩ fun w3 h1 h2 h3 => hK _ _ ?_
        have G3 : Hd (SetAt w w3 b lv (.slice (some ⟨g, 0, none⟩) D.W.length c) m D F p (k + 1) (k + 1)) := ⟨SetAt.del H.out G1.out hlt nr2 (by rw [HI.out]; exact h1) h2⟩
        clear hK h1 h2 h3 n0 m0 G1 G2
        go_wp2_with fail
        go_roundw
        case rel => exact ⟨k + 1, by go_num, hlt, G3⟩
        case measure => simp [intOf]; omega
    · have hkn : k = D.W.length := by omega
      have c1' : wr.cell? ⟨b, 1, none⟩ = some (.slice a D.W.length c) := blk_cell HS.out.blk 1
      have f1' : wr.frozen? ⟨b, 1, none⟩ = false := blk_free HS.out.blk 1
      have HK := Hd.mk hkn
      clear hkn
      go_wp2_with fail
      go_end0
      exact ⟨rfl, SetAt.done H.out HS.out HK.out⟩
end Go.Proofs.Ytkdakmddlkgjkaa
open Go.RowKit Go.Lib
namespace Go.Proofs.Ytkdakmddlkgjkaa
set_option maxRecDepth 100000
/-- A field is written. -/
theorem DiskAt.field {w : World} {b : Nat} {lv wv : Value} {m : Nat} {D D' : Ds} {F : Nat → Prop} (h : DiskAt w b lv wv m D F) (j : Nat) (v : Value) (hL : D'.L = D.L) (hW : D'.W = D.W) (ho : D'.gh = D.gh) (hok : D'.ok)
    (hc : (dcells lv wv m D).setIfInBounds j v = dcells lv wv m D') : DiskAt (w.setCell ⟨b, j, none⟩ v) b lv wv m D' F :=
  ⟨by rw [blk_set h.blk, hc], by rw [hL]; exact Own.setCell h.ls _ _ h.lb, by rw [hW]; exact Own.setCell h.ws _ _ h.wb, by rw [hW]; exact by rw [ho]; exact h.mp.keep (Below.heap_setCell _ _ _ _ h.mne.1), h.lb, h.wb, h.lw, h.fb, h.fm, h.fl, h.fw, fun k hk => by have := h.lt k hk; simpa [World.setCell] using this, hok⟩
theorem dcells_0 (lv wv : Value) (m : Nat) (D : Ds) : dcells lv wv m D = #[lv, wv, .map (some m), .bool D.off, .int .i64 (D.ops : Int), .bool D.on, .int .i64 (D.aft : Int), .int .u64 (D.mask : Int)] := rfl
theorem start_c {w : World} {b : Nat} {D : Ds} {F : Nat → Prop} (h : IsDisk w b D F) :
    Calls Try.prog 36 #[.pointer (some ⟨b, 0, none⟩)] w fun e w' => e = .returned (.tuple #[]) ∧ IsDisk w' b D.start F ∧ Upd F w w' := by
  obtain ⟨lv, wv, m, h⟩ := h
  have c2 : w.cell? ⟨b, 2, none⟩ = some (.map (some m)) := blk_cell h.blk 2
  have c3 : w.cell? ⟨b, 3, none⟩ = some (.bool D.off) := blk_cell h.blk 3
  have f3 : w.frozen? ⟨b, 3, none⟩ = false := blk_free h.blk 3
  have H := Hd.mk h
  clear h
  go_enter Try.func36, Try.ntmps36
  go_wp2_with fail
  refine (dthere_c m c2).mono ?_
  rintro e w' ⟨rfl, rfl⟩
  go_wp2
  go_end0
  have ok := H.out.ok
  exact ⟨rfl, ⟨lv, wv, m, H.out.field 3 _ rfl rfl rfl ⟨ok.lo, ok.hi, ok.l64, ok.w64, ok.wops, ok.opb, ok.ghb, ok.aft, ok.mask⟩ rfl⟩, (Upd.refl F w).setCell (p := ⟨b, 3, none⟩) H.out.fb _⟩
theorem fail_c {w : World} {b : Nat} {D : Ds} {F : Nat → Prop} (h : IsDisk w b D F) (mask : Nat) :
    Calls Try.prog 34 #[.pointer (some ⟨b, 0, none⟩), .int .u64 (mask : Int)] w fun e w' => e = .returned (.tuple #[]) ∧ IsDisk w' b (D.fail mask) F ∧ Upd F w w' := by
  have hI := h
  obtain ⟨lv, wv, m, h⟩ := h
  have c2 : w.cell? ⟨b, 2, none⟩ = some (.map (some m)) := blk_cell h.blk 2
  have c3 : w.cell? ⟨b, 3, none⟩ = some (.bool D.off) := blk_cell h.blk 3
  have hbl := blk_lt h.blk
  have HB := Hd.mk h.blk
  have HI := Hd.mk hI
  clear h hI
  unfold Ds.fail
  cases ho : D.off with
  | true =>
    rw [ho] at c3
    rw [if_pos rfl]
    clear ho
    go_enter Try.func34, Try.ntmps34
    go_wp2_with fail
    refine (dthere_c m (blk_cell (blk_alloc HB.out _) 2)).mono ?_
    rintro e w' ⟨rfl, rfl⟩
    go_wp2_with fail
    refine bodyPost_ret (results_none (by rfl) _ _ _) rfl ?_
    have hb := (Below.refl w.heap.size w).alloc (Nat.le_refl _) (.cells #[.int .u64 (mask : Int)] 57)
    exact ⟨rfl, HI.out.ext hb, Upd.of hb⟩
  | false =>
    rw [ho] at c3
    rw [if_neg (by decide)]
    clear ho
    have hmf : ∀ (fn : Fn) (first cap : Array Value) (w : World), (Instr.makeFunc fn first cap).run Try.prog w = .ok (.func fn first cap) w := fun _ _ _ _ => rfl
    go_enter Try.func34, Try.ntmps34
    go_wp2_with fail
    refine (dthere_c m (blk_cell (blk_alloc HB.out _) 2)).mono ?_
    rintro e w' ⟨rfl, rfl⟩
    go_wp2_with fail
    have hb := (Below.refl w.heap.size w).alloc (Nat.le_refl _) (.cells #[.int .u64 (mask : Int)] 57)
    refine (settle_bit (HI.out.ext hb) w.heap.size mask ⟨blk_cell (blk_new _ _ _ _ _ rfl) 0, fun hF => Nat.lt_irrefl _ (HI.out.lt _ hF), by rw [sz_alloc]; omega⟩).mono ?_
    rintro e w2 ⟨rfl, h2, hu⟩
    have HU : Hd (Upd F w w2) := ⟨(Upd.of hb).trans hu⟩
    obtain ⟨lv2, wv2, m2, h2⟩ := h2
    have c3' : w2.cell? ⟨b, 3, none⟩ = some (.bool D.off) := blk_cell h2.blk 3
    have f3' : w2.frozen? ⟨b, 3, none⟩ = false := blk_free h2.blk 3
    have H2 := Hd.mk h2
    clear h2 hu hb hmf c2 c3 hbl
    go_wp2_with fail
    go_end0
    have ok := H2.out.ok
    exact ⟨rfl, ⟨lv2, wv2, m2, H2.out.field 3 _ rfl rfl rfl ⟨ok.lo, ok.hi, ok.l64, ok.w64, ok.wops, ok.opb, ok.ghb, ok.aft, ok.mask⟩ rfl⟩, HU.out.setCell (p := ⟨b, 3, none⟩) H2.out.fb _⟩
/-- an operation is counted -/
theorem cut_c {w : World} {b : Nat} {D : Ds} {F : Nat → Prop} (h : IsDisk w b D F) (hops : D.ops + 1 < 1000000000) :
    Calls Try.prog 60 #[.pointer (some ⟨b, 0, none⟩)] w fun e w' => e = .returned (.bool D.cut.1) ∧ IsDisk w' b D.cut.2 F ∧ Upd F w w' := by
  obtain ⟨lv, wv, m, h⟩ := h
  have c4 : w.cell? ⟨b, 4, none⟩ = some (.int .i64 (D.ops : Int)) := blk_cell h.blk 4
  have f4 : w.frozen? ⟨b, 4, none⟩ = false := blk_free h.blk 4
  have c5 : w.cell? ⟨b, 5, none⟩ = some (.bool D.on) := blk_cell h.blk 5
  have f5 : w.frozen? ⟨b, 5, none⟩ = false := blk_free h.blk 5
  have c6 : w.cell? ⟨b, 6, none⟩ = some (.int .i64 (D.aft : Int)) := blk_cell h.blk 6
  have f6 : w.frozen? ⟨b, 6, none⟩ = false := blk_free h.blk 6
  have c7 : w.cell? ⟨b, 7, none⟩ = some (.int .u64 (D.mask : Int)) := blk_cell h.blk 7
  have haft := h.ok.aft
  have H := Hd.mk h
  clear h
  unfold Ds.cut
  have ok := H.out.ok
  have hw := ok.wops
  by_cases hon : D.on = true
  case neg =>
    have hon2 : D.on = false := by simpa using hon
    rw [hon2] at c5
    clear hon2
    have OK := Hd.mk ok
    have HW := Hd.mk hw
    clear ok hw
    rw [if_neg hon]
    have HON := Hd.mk hon
    clear hon
    go_enter Try.func60, Try.ntmps60
    go_wp2_with fail
    go_ret
    have ok := OK.out
    have hw := HW.out
    exact ⟨rfl, ⟨lv, wv, m, H.out.field 4 _ rfl rfl rfl ⟨ok.lo, ok.hi, ok.l64, ok.w64, ok.wops, hops, ok.ghb, ok.aft, ok.mask⟩ rfl⟩, (Upd.refl F w).setCell (p := ⟨b, 4, none⟩) H.out.fb _⟩
  case pos =>
    rw [hon] at c5
    rw [if_pos hon]
    have ok1 : ({ D with ops := D.ops + 1 } : Ds).ok := ⟨ok.lo, ok.hi, ok.l64, ok.w64, ok.wops, hops, ok.ghb, ok.aft, ok.mask⟩
    have OK1 := Hd.mk ok1
    have HON := Hd.mk hon
    clear ok hw ok1 hon
    by_cases ha : 0 < D.aft
    · have e1 : ((D.aft : Int) - 1) = ((D.aft - 1 : Nat) : Int) := by omega
      rw [if_pos ha]
      have E1 := Hd.mk e1
      clear e1
      go_enter Try.func60, Try.ntmps60
      go_wp2_with fail
      go_ret
      have ok := OK1.out
      have h1 := H.out.field (D' := { D with ops := D.ops + 1 }) 4 (.int .i64 ((D.ops : Int) + 1)) rfl rfl rfl ok rfl
      have h2 := h1.field (D' := { D with ops := D.ops + 1, aft := D.aft - 1 }) 6 (.int .i64 ((D.aft : Int) - 1)) rfl rfl rfl ⟨ok.lo, ok.hi, ok.l64, ok.w64, ok.wops, ok.opb, ok.ghb, by show D.aft - 1 < _; omega, ok.mask⟩ (by rw [E1.out]; rfl)
      exact ⟨rfl, ⟨lv, wv, m, h2⟩, ((Upd.refl F w).setCell (p := ⟨b, 4, none⟩) H.out.fb _).setCell (p := ⟨b, 6, none⟩) H.out.fb _⟩
    · rw [if_neg ha]
      have ha0 : D.aft = 0 := by omega
      rw [ha0] at c6
      have HA := Hd.mk ha0
      clear ha ha0 haft
      go_enter Try.func60, Try.ntmps60
      go_wp2_with fail
      have ok := OK1.out
      have h1 := H.out.field (D' := { D with ops := D.ops + 1 }) 4 (.int .i64 ((D.ops : Int) + 1)) rfl rfl rfl ok rfl
      have h2 := h1.field (D' := { D with ops := D.ops + 1, on := false }) 5 (.bool false) rfl rfl rfl ⟨ok.lo, ok.hi, ok.l64, ok.w64, ok.wops, ok.opb, ok.ghb, ok.aft, ok.mask⟩ rfl
      refine (fail_c ⟨lv, wv, m, h2⟩ D.mask).mono ?_
      rintro e w2 ⟨rfl, g1, g2⟩
      have G : Hd (IsDisk w2 b (({ D with ops := D.ops + 1, on := false } : Ds).fail D.mask) F ∧ Upd F w w2) := ⟨g1, (((Upd.refl F w).setCell (p := ⟨b, 4, none⟩) H.out.fb _).setCell (p := ⟨b, 5, none⟩) H.out.fb _).trans g2⟩
      clear g1 g2 h1 h2 ok
      go_wp2_with fail
      go_ret
      exact ⟨rfl, G.out⟩
/-- a failure is planned -/
theorem plan_c {w : World} {b : Nat} {D : Ds} {F : Nat → Prop} (h : IsDisk w b D F) (k mask : Nat) (hk : k < 9223372036854775808) (hm : mask < 18446744073709551616) :
    Calls Try.prog 32 #[.pointer (some ⟨b, 0, none⟩), .int .i64 (k : Int), .int .u64 (mask : Int)] w fun e w' => e = .returned (.int .i64 0) ∧ IsDisk w' b (D.plan k mask) F ∧ Upd F w w' := by
  obtain ⟨lv, wv, m, h⟩ := h
  have c2 : w.cell? ⟨b, 2, none⟩ = some (.map (some m)) := blk_cell h.blk 2
  have c5 : w.cell? ⟨b, 5, none⟩ = some (.bool D.on) := blk_cell h.blk 5
  have f5 : w.frozen? ⟨b, 5, none⟩ = false := blk_free h.blk 5
  have c6 : w.cell? ⟨b, 6, none⟩ = some (.int .i64 (D.aft : Int)) := blk_cell h.blk 6
  have f6 : w.frozen? ⟨b, 6, none⟩ = false := blk_free h.blk 6
  have c7 : w.cell? ⟨b, 7, none⟩ = some (.int .u64 (D.mask : Int)) := blk_cell h.blk 7
  have f7 : w.frozen? ⟨b, 7, none⟩ = false := blk_free h.blk 7
  have H := Hd.mk h
  clear h
  go_enter Try.func32, Try.ntmps32
  go_wp2_with fail
  refine (dthere_c m c2).mono ?_
  rintro e w' ⟨rfl, rfl⟩
  go_wp2_with fail
  go_ret
  have ok := H.out.ok
  have h1 := H.out.field (D' := { D with on := true }) 5 (.bool true) rfl rfl rfl ⟨ok.lo, ok.hi, ok.l64, ok.w64, ok.wops, ok.opb, ok.ghb, ok.aft, ok.mask⟩ rfl
  have h2 := h1.field (D' := { D with on := true, aft := k }) 6 (.int .i64 (k : Int)) rfl rfl rfl ⟨ok.lo, ok.hi, ok.l64, ok.w64, ok.wops, ok.opb, ok.ghb, hk, ok.mask⟩ rfl
  have h3 := h2.field (D' := D.plan k mask) 7 (.int .u64 (mask : Int)) rfl rfl rfl ⟨ok.lo, ok.hi, ok.l64, ok.w64, ok.wops, ok.opb, ok.ghb, hk, hm⟩ rfl
  exact ⟨rfl, ⟨lv, wv, m, h3⟩, (((Upd.refl F w).setCell (p := ⟨b, 5, none⟩) H.out.fb _).setCell (p := ⟨b, 6, none⟩) H.out.fb _).setCell (p := ⟨b, 7, none⟩) H.out.fb _⟩
end Go.Proofs.Ytkdakmddlkgjkaa
