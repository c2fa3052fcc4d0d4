import Derived.Outline
import Derived.Test.YtkdakmddlkgjkaaRg6
open Go.RowKit Go.Lib
namespace Go.Proofs.Ytkdakmddlkgjkaa
set_option maxRecDepth 100000
def zcell : List Value := [.int .i64 0, .int .i64 0, .int .i64 0, .int .i64 0, .string ⟨#[]⟩]
/-- On the way through Append: the disk, the entry's box, the result's. -/
structure AppMid (w wx : World) (b N : Nat) (D : Ds) (F F' : Nat → Prop) (e : En) : Prop where
  dk : IsDisk wx b D F'
  bx : wx.heap[N]? = some (.cells (ecell e).toArray 28 (0, 0))
  rz : wx.heap[N + 1]? = some (.cells zcell.toArray 28 (0, 0))
  up : Upd F w wx
  ff : ∀ k, F' k → F k ∨ w.heap.size ≤ k
  nn : ¬ F' N ∧ ¬ F' (N + 1)
section
variable {w wx wy : World} {b N : Nat} {D D2 : Ds} {F F' F2 : Nat → Prop} {e : En}
theorem AppMid.ext (h : AppMid w wx b N D F F' e) (hb : Below wx.heap.size wx wy) : AppMid w wy b N D F F' e :=
  ⟨h.dk.ext hb, by rw [hb.block N (blk_lt h.bx)]; exact h.bx, by rw [hb.block (N + 1) (blk_lt h.rz)]; exact h.rz, h.up.ext hb, h.ff, h.nn⟩
/-- The disk is worked on. -/
theorem AppMid.disk (h : AppMid w wx b N D F F' e) (h2 : IsDisk wy b D2 F2) (hu : Upd F' wx wy) (hf : ∀ k, F2 k → F' k ∨ wx.heap.size ≤ k) (_hF : ∀ k, F k → k < w.heap.size) : AppMid w wy b N D2 F F2 e := by
  have l0 := blk_lt h.bx
  have l1 := blk_lt h.rz
  have hs := h.up.size
  refine ⟨h2, by rw [hu.block N l0 h.nn.1]; exact h.bx, by rw [hu.block (N + 1) l1 h.nn.2]; exact h.rz, ?_, ?_, ?_, ?_⟩
  · exact ⟨hu.os.trans h.up.os, hu.tape.trans h.up.tape, hu.output.trans h.up.output, Nat.le_trans hs hu.size, fun k hk hn => (hu.block k (by omega) (fun hc => (h.ff k hc).elim hn (fun hc => by omega))).trans (h.up.block k hk hn)⟩
  · intro k hk
    rcases hf k hk with h1 | h1
    · exact h.ff k h1
    · exact .inr (by omega)
  · intro hc
    rcases hf N hc with h1 | h1
    · exact h.nn.1 h1
    · omega
  · intro hc
    rcases hf (N + 1) hc with h1 | h1
    · exact h.nn.2 h1
    · omega
/-- The result is laid down. -/
theorem AppMid.ret (h : AppMid w wx b N D F F' e) (hN : w.heap.size ≤ N) (_hF : ∀ k, F k → k < w.heap.size) (x0 x1 x2 x3 x4 : Value) :
    ∃ F2, IsDisk (((((wx.setCell ⟨N + 1, 0, none⟩ x0).setCell ⟨N + 1, 1, none⟩ x1).setCell ⟨N + 1, 2, none⟩ x2).setCell ⟨N + 1, 3, none⟩ x3).setCell ⟨N + 1, 4, none⟩ x4) b D F2 ∧
      Upd F w (((((wx.setCell ⟨N + 1, 0, none⟩ x0).setCell ⟨N + 1, 1, none⟩ x1).setCell ⟨N + 1, 2, none⟩ x2).setCell ⟨N + 1, 3, none⟩ x3).setCell ⟨N + 1, 4, none⟩ x4) ∧ ∀ k, F2 k → F k ∨ w.heap.size ≤ k := by
  have hu : Upd (· = N + 1) wx (((((wx.setCell ⟨N + 1, 0, none⟩ x0).setCell ⟨N + 1, 1, none⟩ x1).setCell ⟨N + 1, 2, none⟩ x2).setCell ⟨N + 1, 3, none⟩ x3).setCell ⟨N + 1, 4, none⟩ x4) :=
    (((((Upd.refl (fun x => x = N + 1) wx).setCell (p := ⟨N + 1, 0, none⟩) rfl _).setCell (p := ⟨N + 1, 1, none⟩) rfl _).setCell (p := ⟨N + 1, 2, none⟩) rfl _).setCell (p := ⟨N + 1, 3, none⟩) rfl _).setCell (p := ⟨N + 1, 4, none⟩) rfl _
  refine ⟨F', h.dk.upd hu (fun k hk hc => h.nn.2 (by subst hc; exact hk)), ?_, h.ff⟩
  have hs := h.up.size
  exact ⟨hu.os.trans h.up.os, hu.tape.trans h.up.tape, hu.output.trans h.up.output, Nat.le_trans hs hu.size, fun k hk hn => (hu.block k (by omega) (fun hc => by omega)).trans (h.up.block k hk hn)⟩
end
theorem AppMid.retA {w wx : World} {b N : Nat} {D : Ds} {F F' : Nat → Prop} {e : En} (h : AppMid w wx b N D F F' e) (hN : w.heap.size ≤ N) (hF : ∀ k, F k → k < w.heap.size) (x0 x1 x2 x3 x4 : Value) (o : Obj) :
    ∃ F2, IsDisk ((((((wx.setCell ⟨N + 1, 0, none⟩ x0).setCell ⟨N + 1, 1, none⟩ x1).setCell ⟨N + 1, 2, none⟩ x2).setCell ⟨N + 1, 3, none⟩ x3).setCell ⟨N + 1, 4, none⟩ x4).alloc o) b D F2 ∧
      Upd F w ((((((wx.setCell ⟨N + 1, 0, none⟩ x0).setCell ⟨N + 1, 1, none⟩ x1).setCell ⟨N + 1, 2, none⟩ x2).setCell ⟨N + 1, 3, none⟩ x3).setCell ⟨N + 1, 4, none⟩ x4).alloc o) ∧ ∀ k, F2 k → F k ∨ w.heap.size ≤ k := by
  obtain ⟨F2, h1, h2, h3⟩ := h.ret hN hF x0 x1 x2 x3 x4
  exact ⟨F2, h1.ext ((Below.refl _ _).alloc (Nat.le_refl _) _), h2.alloc o, h3⟩
theorem AppMid.setN {w wx : World} {b N : Nat} {D : Ds} {F F' : Nat → Prop} {e : En} (h : AppMid w wx b N D F F' e) (m : Int) (hN : w.heap.size ≤ N) : AppMid w (wx.setCell ⟨N, 1, none⟩ (.int .i64 m)) b N D F F' { e with n := m } := by
  have hu : Upd (fun x => x = N) wx (wx.setCell ⟨N, 1, none⟩ (.int .i64 m)) := (Upd.refl (fun x => x = N) wx).setCell (p := ⟨N, 1, none⟩) rfl _
  refine ⟨h.dk.upd hu (fun k hk hc => h.nn.1 (by subst hc; exact hk)), by rw [blk_set h.bx]; rfl, blk_set_ne h.rz _ _ (by show N + 1 ≠ N; omega), ?_, h.ff, h.nn⟩
  have hs := h.up.size
  by_cases hF : ∃ k, k < w.heap.size ∧ False
  · exact absurd hF.choose_spec.2 id
  · exact ⟨h.up.os, h.up.tape, h.up.output, Nat.le_trans hs hu.size, fun k hk hn => (hu.block k (by omega) (fun hc => by omega)).trans (h.up.block k hk hn)⟩
theorem append_nil (e : En) (w : World) : Calls Try.prog 23 #[.pointer none, ev e] w fun r w' => r = .returned (.tuple #[ev E0, .int .i64 16]) ∧ Below w.heap.size w w' := by
  obtain ⟨k, n, sl, sz, sum⟩ := e
  show Calls Try.prog _ #[.pointer none, .agg #[.int .i64 k, .int .i64 n, .int .i64 sl, .int .i64 sz, .string ⟨sum.toArray⟩]] w _
  have hl : ∀ w, Calls Try.prog 22 #[.pointer none] w fun e w' => e = .returned (.tuple #[.agg #[.int .i64 0, .int .i64 0, .int .i64 0, .int .i64 0, .string ⟨#[]⟩], .bool false, .int .i64 16]) ∧ Below w.heap.size w w' := last_nil
  obtain ⟨N, hN⟩ : ∃ N, w.heap.size = N := ⟨_, rfl⟩
  have HN := Hd.mk hN
  clear hN
  go_enter Try.func23, Try.ntmps23
  go_wp2_with fail
  refine (hl _).mono ?_
  rintro e w1 ⟨rfl, hb⟩
  rw [HN.out]
  have hz : w1.heap[N + 1]? = some (.cells zcell.toArray 28 (0, 0)) := by
    rw [hb.block (N + 1) (by rw [sz_alloc, sz_alloc]; have := HN.out; omega)]
    exact blk_new _ _ _ _ _ (by rw [sz_alloc, HN.out])
  have HB : Hd (Below w.heap.size w w1) := ⟨(((Below.refl w.heap.size w).alloc (Nat.le_refl _) _).alloc (by rw [sz_alloc]; omega) _).trans (hb.mono (by rw [sz_alloc, sz_alloc]; omega))⟩
  have HZ := Hd.mk hz
  clear hb hz hl
  have d0 := blk_cell HZ.out 0
  have df0 := blk_free HZ.out 0
  have d1 := blk_cell HZ.out 1
  have df1 := blk_free HZ.out 1
  have d2 := blk_cell HZ.out 2
  have df2 := blk_free HZ.out 2
  have d3 := blk_cell HZ.out 3
  have df3 := blk_free HZ.out 3
  have d4 := blk_cell HZ.out 4
  have df4 := blk_free HZ.out 4
  simp only [zcell, List.getElem?_toArray, List.getElem?_cons_zero, List.getElem?_cons_succ] at d0 d1 d2 d3 d4
  have dl := blk_lt HZ.out
  go_wp2_with fail
  refine bodyPost_ret (v := .tuple #[.agg #[.int .i64 0, .int .i64 0, .int .i64 0, .int .i64 0, .string ⟨#[]⟩], .int .i64 16]) (by simp [results, Try.results23, go_sem, d0, d1, d2, d3, d4, dl]) rfl ⟨rfl, (below5 HB.out (by have := HN.out; omega) _ _ _ _ _).alloc (by have := HB.out.size; simpa [World.setCell] using this) _⟩
set_option maxHeartbeats 1000000 in
theorem append_off {w : World} {b : Nat} {D : Ds} {F : Nat → Prop} (h : IsDisk w b D F) (k n sl sz : Int) (sum : List UInt8) (ho : D.off = true) :
    Calls Try.prog 23 #[.pointer (some ⟨b, 0, none⟩), .agg #[.int .i64 k, .int .i64 n, .int .i64 sl, .int .i64 sz, .string ⟨sum.toArray⟩]] w fun r w' => r = .returned (.tuple #[.agg #[.int .i64 0, .int .i64 0, .int .i64 0, .int .i64 0, .string ⟨#[]⟩], .int .i64 7]) ∧ ∃ F', IsDisk w' b D F' ∧ Upd F w w' ∧ ∀ k, F' k → F k ∨ w.heap.size ≤ k := by
  obtain ⟨N, hN⟩ : ∃ N, w.heap.size = N := ⟨_, rfl⟩
  have HN := Hd.mk hN
  clear hN
  have HF := Hd.mk h.lt
  have hba : Below w.heap.size w ((w.alloc (.cells #[.int .i64 k, .int .i64 n, .int .i64 sl, .int .i64 sz, .string ⟨sum.toArray⟩] 28 (0, 0))).alloc (.cells zcell.toArray 28 (0, 0))) := ((Below.refl w.heap.size w).alloc (Nat.le_refl _) _).alloc (by rw [sz_alloc]; omega) _
  have M0 : Hd (AppMid w ((w.alloc (.cells #[.int .i64 k, .int .i64 n, .int .i64 sl, .int .i64 sz, .string ⟨sum.toArray⟩] 28 (0, 0))).alloc (.cells zcell.toArray 28 (0, 0))) b N D F F ⟨k, n, sl, sz, sum⟩) :=
    ⟨⟨h.ext hba, blk_alloc (blk_new _ _ _ _ _ HN.out) _, blk_new _ _ _ _ _ (by rw [sz_alloc, HN.out]), Upd.of hba, fun k hk => .inl hk, fun hc => by have := h.lt _ hc; have := HN.out; omega, fun hc => by have := h.lt _ hc; have := HN.out; omega⟩⟩
  have hl := last_c M0.out.dk
  have hv : lastV D = .tuple #[.agg #[.int .i64 0, .int .i64 0, .int .i64 0, .int .i64 0, .string ⟨#[]⟩], .bool false, .int .i64 7] := by unfold lastV; rw [if_pos ho]; rfl
  rw [hv] at hl
  clear hv ho
  clear h hba
  go_enter Try.func23, Try.ntmps23
  go_wp2_with fail
  refine hl.mono ?_
  rintro e w1 ⟨rfl, hb⟩
  rw [HN.out]
  have M1 : Hd (AppMid w w1 b N D F F ⟨k, n, sl, sz, sum⟩) := ⟨M0.out.ext hb⟩
  have M1a : Hd (∀ o, AppMid w (w1.alloc o) b N D F F ⟨k, n, sl, sz, sum⟩) := ⟨fun o => M1.out.ext ((Below.refl _ _).alloc (Nat.le_refl _) _)⟩
  clear hb hl M0
  have d0 := blk_cell M1.out.rz 0
  have df0 := blk_free M1.out.rz 0
  have d1 := blk_cell M1.out.rz 1
  have df1 := blk_free M1.out.rz 1
  have d2 := blk_cell M1.out.rz 2
  have df2 := blk_free M1.out.rz 2
  have d3 := blk_cell M1.out.rz 3
  have df3 := blk_free M1.out.rz 3
  have d4 := blk_cell M1.out.rz 4
  have df4 := blk_free M1.out.rz 4
  simp only [zcell, List.getElem?_toArray, List.getElem?_cons_zero, List.getElem?_cons_succ] at d0 d1 d2 d3 d4
  have dl := blk_lt M1.out.rz
  go_wp2_with fail
  refine bodyPost_ret (v := .tuple #[.agg #[.int .i64 0, .int .i64 0, .int .i64 0, .int .i64 0, .string ⟨#[]⟩], .int .i64 7]) (by simp [results, Try.results23, go_sem, d0, d1, d2, d3, d4, dl]) rfl ⟨rfl, AppMid.retA M1.out (by rw [HN.out]; exact Nat.le_refl _) HF.out _ _ _ _ _ _⟩
set_option maxHeartbeats 1000000 in
theorem append_full {w : World} {b : Nat} {D : Ds} {F : Nat → Prop} (h : IsDisk w b D F) (k n sl sz : Int) (sum : List UInt8) (ho : D.off = false) (hn : newest D = 4294967295) :
    Calls Try.prog 23 #[.pointer (some ⟨b, 0, none⟩), .agg #[.int .i64 k, .int .i64 n, .int .i64 sl, .int .i64 sz, .string ⟨sum.toArray⟩]] w fun r w' => r = .returned (.tuple #[.agg #[.int .i64 0, .int .i64 0, .int .i64 0, .int .i64 0, .string ⟨#[]⟩], .int .i64 6]) ∧ ∃ F', IsDisk w' b D F' ∧ Upd F w w' ∧ ∀ k, F' k → F k ∨ w.heap.size ≤ k := by
  obtain ⟨N, hN⟩ : ∃ N, w.heap.size = N := ⟨_, rfl⟩
  have HN := Hd.mk hN
  clear hN
  have HF := Hd.mk h.lt
  have hba : Below w.heap.size w ((w.alloc (.cells #[.int .i64 k, .int .i64 n, .int .i64 sl, .int .i64 sz, .string ⟨sum.toArray⟩] 28 (0, 0))).alloc (.cells zcell.toArray 28 (0, 0))) := ((Below.refl w.heap.size w).alloc (Nat.le_refl _) _).alloc (by rw [sz_alloc]; omega) _
  have M0 : Hd (AppMid w ((w.alloc (.cells #[.int .i64 k, .int .i64 n, .int .i64 sl, .int .i64 sz, .string ⟨sum.toArray⟩] 28 (0, 0))).alloc (.cells zcell.toArray 28 (0, 0))) b N D F F ⟨k, n, sl, sz, sum⟩) :=
    ⟨⟨h.ext hba, blk_alloc (blk_new _ _ _ _ _ HN.out) _, blk_new _ _ _ _ _ (by rw [sz_alloc, HN.out]), Upd.of hba, fun k hk => .inl hk, fun hc => by have := h.lt _ hc; have := HN.out; omega, fun hc => by have := h.lt _ hc; have := HN.out; omega⟩⟩
  have hl := last_c M0.out.dk
  have hv : ∃ lk ln lsl lsz lsum lb, lastV D = .tuple #[.agg #[.int .i64 lk, .int .i64 ln, .int .i64 lsl, .int .i64 lsz, .string ⟨lsum⟩], .bool lb, .int .i64 0] ∧ ln = newest D := by
    rw [newest_eq]; unfold lastV; rw [if_neg (by rw [ho]; decide)]; exact ⟨_, _, _, _, _, _, rfl, rfl⟩
  obtain ⟨lk, ln, lsl, lsz, lsum, lb, hv, hln⟩ := hv
  rw [hv] at hl
  have hb0 := lastE_bound D
  rw [← newest_eq, ← hln] at hb0
  rw [← hln] at hn
  subst hn
  have HLN := Hd.mk hln
  clear hv ho hln
  clear h hba
  go_enter Try.func23, Try.ntmps23
  go_wp2_with fail
  refine hl.mono ?_
  rintro e w1 ⟨rfl, hb⟩
  rw [HN.out]
  have M1 : Hd (AppMid w w1 b N D F F ⟨k, n, sl, sz, sum⟩) := ⟨M0.out.ext hb⟩
  have M1a : Hd (∀ o, AppMid w (w1.alloc o) b N D F F ⟨k, n, sl, sz, sum⟩) := ⟨fun o => M1.out.ext ((Below.refl _ _).alloc (Nat.le_refl _) _)⟩
  clear hb hl M0
  have d0 := blk_cell M1.out.rz 0
  have df0 := blk_free M1.out.rz 0
  have d1 := blk_cell M1.out.rz 1
  have df1 := blk_free M1.out.rz 1
  have d2 := blk_cell M1.out.rz 2
  have df2 := blk_free M1.out.rz 2
  have d3 := blk_cell M1.out.rz 3
  have df3 := blk_free M1.out.rz 3
  have d4 := blk_cell M1.out.rz 4
  have df4 := blk_free M1.out.rz 4
  simp only [zcell, List.getElem?_toArray, List.getElem?_cons_zero, List.getElem?_cons_succ] at d0 d1 d2 d3 d4
  have dl := blk_lt M1.out.rz
  go_wp2_with fail
  refine bodyPost_ret (v := .tuple #[.agg #[.int .i64 0, .int .i64 0, .int .i64 0, .int .i64 0, .string ⟨#[]⟩], .int .i64 6]) (by simp [results, Try.results23, go_sem, d0, d1, d2, d3, d4, dl]) rfl ⟨rfl, AppMid.retA M1.out (by rw [HN.out]; exact Nat.le_refl _) HF.out _ _ _ _ _ _⟩
set_option maxHeartbeats 1000000 in
theorem append_bad {w : World} {b : Nat} {D : Ds} {F : Nat → Prop} (h : IsDisk w b D F) (k n sl sz : Int) (sum : List UInt8) (ho : D.off = false) (hn : ¬ newest D = 4294967295) (hr : (En.mk k (newest D + 1) sl sz sum).right = false) :
    Calls Try.prog 23 #[.pointer (some ⟨b, 0, none⟩), .agg #[.int .i64 k, .int .i64 n, .int .i64 sl, .int .i64 sz, .string ⟨sum.toArray⟩]] w fun r w' => r = .returned (.tuple #[.agg #[.int .i64 0, .int .i64 0, .int .i64 0, .int .i64 0, .string ⟨#[]⟩], .int .i64 1]) ∧ ∃ F', IsDisk w' b D F' ∧ Upd F w w' ∧ ∀ k, F' k → F k ∨ w.heap.size ≤ k := by
  obtain ⟨N, hN⟩ : ∃ N, w.heap.size = N := ⟨_, rfl⟩
  have HN := Hd.mk hN
  clear hN
  have HF := Hd.mk h.lt
  have hba : Below w.heap.size w ((w.alloc (.cells #[.int .i64 k, .int .i64 n, .int .i64 sl, .int .i64 sz, .string ⟨sum.toArray⟩] 28 (0, 0))).alloc (.cells zcell.toArray 28 (0, 0))) := ((Below.refl w.heap.size w).alloc (Nat.le_refl _) _).alloc (by rw [sz_alloc]; omega) _
  have M0 : Hd (AppMid w ((w.alloc (.cells #[.int .i64 k, .int .i64 n, .int .i64 sl, .int .i64 sz, .string ⟨sum.toArray⟩] 28 (0, 0))).alloc (.cells zcell.toArray 28 (0, 0))) b N D F F ⟨k, n, sl, sz, sum⟩) :=
    ⟨⟨h.ext hba, blk_alloc (blk_new _ _ _ _ _ HN.out) _, blk_new _ _ _ _ _ (by rw [sz_alloc, HN.out]), Upd.of hba, fun k hk => .inl hk, fun hc => by have := h.lt _ hc; have := HN.out; omega, fun hc => by have := h.lt _ hc; have := HN.out; omega⟩⟩
  have hl := last_c M0.out.dk
  have hv : ∃ lk ln lsl lsz lsum lb, lastV D = .tuple #[.agg #[.int .i64 lk, .int .i64 ln, .int .i64 lsl, .int .i64 lsz, .string ⟨lsum⟩], .bool lb, .int .i64 0] ∧ ln = newest D := by
    rw [newest_eq]; unfold lastV; rw [if_neg (by rw [ho]; decide)]; exact ⟨_, _, _, _, _, _, rfl, rfl⟩
  obtain ⟨lk, ln, lsl, lsz, lsum, lb, hv, hln⟩ := hv
  rw [hv] at hl
  have hb0 := lastE_bound D
  rw [← newest_eq, ← hln] at hb0
  rw [← hln] at hn hr
  have HLN := Hd.mk hln
  clear hv ho hln
  have hbd : ∀ w, Calls Try.prog 14 #[.agg #[.int .i64 k, .int .i64 (ln + 1), .int .i64 sl, .int .i64 sz, .string ⟨sum.toArray⟩]] w fun r w' => r = .returned (.tuple #[.string ⟨[].toArray⟩, .int .i64 1]) ∧ Below w.heap.size w w' := fun w => by
    have h2 := ebuild_c ⟨k, ln + 1, sl, sz, sum⟩ w
    unfold build at h2; rw [if_neg (by rw [hr]; decide), if_neg (by rw [hr]; decide)] at h2
    exact h2
  clear hr
  clear h hba
  go_enter Try.func23, Try.ntmps23
  go_wp2_with fail
  refine hl.mono ?_
  rintro e w1 ⟨rfl, hb⟩
  rw [HN.out]
  have M1 : Hd (AppMid w w1 b N D F F ⟨k, n, sl, sz, sum⟩) := ⟨M0.out.ext hb⟩
  have M1a : Hd (∀ o, AppMid w (w1.alloc o) b N D F F ⟨k, n, sl, sz, sum⟩) := ⟨fun o => M1.out.ext ((Below.refl _ _).alloc (Nat.le_refl _) _)⟩
  clear hb hl M0
  have hne : (ln == 4294967295) = false := by rw [beq_eq_false_iff_ne]; exact hn
  have M1b : Hd (∀ o, AppMid w ((w1.setCell ⟨N, 1, none⟩ (.int .i64 (ln + 1))).alloc o) b N D F F ⟨k, ln + 1, sl, sz, sum⟩) := ⟨fun o => (M1.out.setN _ (by rw [HN.out]; exact Nat.le_refl _)).ext ((Below.refl _ _).alloc (Nat.le_refl _) _)⟩
  clear hn
  have e0 := blk_cell M1.out.bx 0
  have e1 := blk_cell M1.out.bx 1
  have e2 := blk_cell M1.out.bx 2
  have e3 := blk_cell M1.out.bx 3
  have e4 := blk_cell M1.out.bx 4
  have ef1 := blk_free M1.out.bx 1
  simp only [ecell, List.getElem?_toArray, List.getElem?_cons_zero, List.getElem?_cons_succ] at e0 e1 e2 e3 e4
  have el := blk_lt M1.out.bx
  go_wp2_with fail
  refine (hbd _).mono ?_
  rintro e w2 ⟨rfl, hb⟩
  have M2 : Hd (AppMid w w2 b N D F F ⟨k, ln + 1, sl, sz, sum⟩) := ⟨(M1b.out _).ext hb⟩
  clear hb hbd M1 M1a M1b hne e0 e1 e2 e3 e4 ef1 el
  have d0 := blk_cell M2.out.rz 0
  have df0 := blk_free M2.out.rz 0
  have d1 := blk_cell M2.out.rz 1
  have df1 := blk_free M2.out.rz 1
  have d2 := blk_cell M2.out.rz 2
  have df2 := blk_free M2.out.rz 2
  have d3 := blk_cell M2.out.rz 3
  have df3 := blk_free M2.out.rz 3
  have d4 := blk_cell M2.out.rz 4
  have df4 := blk_free M2.out.rz 4
  simp only [zcell, List.getElem?_toArray, List.getElem?_cons_zero, List.getElem?_cons_succ] at d0 d1 d2 d3 d4
  have dl := blk_lt M2.out.rz
  go_wp2_with fail
  refine bodyPost_ret (v := .tuple #[.agg #[.int .i64 0, .int .i64 0, .int .i64 0, .int .i64 0, .string ⟨#[]⟩], .int .i64 1]) (by simp [results, Try.results23, go_sem, d0, d1, d2, d3, d4]) rfl ⟨rfl, AppMid.ret M2.out (by rw [HN.out]; exact Nat.le_refl _) HF.out _ _ _ _ _⟩
set_option maxHeartbeats 1000000 in
theorem append_wf {w : World} {b : Nat} {D : Ds} {F : Nat → Prop} (h : IsDisk w b D F) (k n sl sz : Int) (sum : List UInt8) (ho : D.off = false) (hops : D.ops + 2 < 1000000000) (hgh : D.gh + 1 < 1000000000) (hn : ¬ newest D = 4294967295) (hr : (En.mk k (newest D + 1) sl sz sum).right = true) (X : List UInt8) (hx : (En.mk k (newest D + 1) sl sz sum).blk = X) (r1 : Nat) (D2 : Ds) (hw : D.write ((newest D + 1) % 8) X = (r1, D2)) (h1 : r1 ≠ 0) :
    Calls Try.prog 23 #[.pointer (some ⟨b, 0, none⟩), .agg #[.int .i64 k, .int .i64 n, .int .i64 sl, .int .i64 sz, .string ⟨sum.toArray⟩]] w fun r w' => r = .returned (.tuple #[.agg #[.int .i64 0, .int .i64 0, .int .i64 0, .int .i64 0, .string ⟨#[]⟩], .int .i64 (r1 : Int)]) ∧ ∃ F', IsDisk w' b D2 F' ∧ Upd F w w' ∧ ∀ k, F' k → F k ∨ w.heap.size ≤ k := by
  obtain ⟨N, hN⟩ : ∃ N, w.heap.size = N := ⟨_, rfl⟩
  have HN := Hd.mk hN
  clear hN
  have HF := Hd.mk h.lt
  have hba : Below w.heap.size w ((w.alloc (.cells #[.int .i64 k, .int .i64 n, .int .i64 sl, .int .i64 sz, .string ⟨sum.toArray⟩] 28 (0, 0))).alloc (.cells zcell.toArray 28 (0, 0))) := ((Below.refl w.heap.size w).alloc (Nat.le_refl _) _).alloc (by rw [sz_alloc]; omega) _
  have M0 : Hd (AppMid w ((w.alloc (.cells #[.int .i64 k, .int .i64 n, .int .i64 sl, .int .i64 sz, .string ⟨sum.toArray⟩] 28 (0, 0))).alloc (.cells zcell.toArray 28 (0, 0))) b N D F F ⟨k, n, sl, sz, sum⟩) :=
    ⟨⟨h.ext hba, blk_alloc (blk_new _ _ _ _ _ HN.out) _, blk_new _ _ _ _ _ (by rw [sz_alloc, HN.out]), Upd.of hba, fun k hk => .inl hk, fun hc => by have := h.lt _ hc; have := HN.out; omega, fun hc => by have := h.lt _ hc; have := HN.out; omega⟩⟩
  have hl := last_c M0.out.dk
  have hv : ∃ lk ln lsl lsz lsum lb, lastV D = .tuple #[.agg #[.int .i64 lk, .int .i64 ln, .int .i64 lsl, .int .i64 lsz, .string ⟨lsum⟩], .bool lb, .int .i64 0] ∧ ln = newest D := by
    rw [newest_eq]; unfold lastV; rw [if_neg (by rw [ho]; decide)]; exact ⟨_, _, _, _, _, _, rfl, rfl⟩
  obtain ⟨lk, ln, lsl, lsz, lsum, lb, hv, hln⟩ := hv
  rw [hv] at hl
  have hb0 := lastE_bound D
  rw [← newest_eq, ← hln] at hb0
  rw [← hln] at hn hr hx hw
  have HLN := Hd.mk hln
  clear hv ho hln
  have hbd : ∀ w, Calls Try.prog 14 #[.agg #[.int .i64 k, .int .i64 (ln + 1), .int .i64 sl, .int .i64 sz, .string ⟨sum.toArray⟩]] w fun r w' => r = .returned (.tuple #[.string ⟨X.toArray⟩, .int .i64 0]) ∧ Below w.heap.size w w' := fun w => by
    have h2 := ebuild_c ⟨k, ln + 1, sl, sz, sum⟩ w
    unfold build at h2; rw [if_pos hr, if_pos hr] at h2; rw [← hx]
    exact h2
  clear hr hx
  clear h hba
  go_enter Try.func23, Try.ntmps23
  go_wp2_with fail
  refine hl.mono ?_
  rintro e w1 ⟨rfl, hb⟩
  rw [HN.out]
  have M1 : Hd (AppMid w w1 b N D F F ⟨k, n, sl, sz, sum⟩) := ⟨M0.out.ext hb⟩
  have M1a : Hd (∀ o, AppMid w (w1.alloc o) b N D F F ⟨k, n, sl, sz, sum⟩) := ⟨fun o => M1.out.ext ((Below.refl _ _).alloc (Nat.le_refl _) _)⟩
  clear hb hl M0
  have hne : (ln == 4294967295) = false := by rw [beq_eq_false_iff_ne]; exact hn
  have M1b : Hd (∀ o, AppMid w ((w1.setCell ⟨N, 1, none⟩ (.int .i64 (ln + 1))).alloc o) b N D F F ⟨k, ln + 1, sl, sz, sum⟩) := ⟨fun o => (M1.out.setN _ (by rw [HN.out]; exact Nat.le_refl _)).ext ((Below.refl _ _).alloc (Nat.le_refl _) _)⟩
  clear hn
  have e0 := blk_cell M1.out.bx 0
  have e1 := blk_cell M1.out.bx 1
  have e2 := blk_cell M1.out.bx 2
  have e3 := blk_cell M1.out.bx 3
  have e4 := blk_cell M1.out.bx 4
  have ef1 := blk_free M1.out.bx 1
  simp only [ecell, List.getElem?_toArray, List.getElem?_cons_zero, List.getElem?_cons_succ] at e0 e1 e2 e3 e4
  have el := blk_lt M1.out.bx
  go_wp2_with fail
  refine (hbd _).mono ?_
  rintro e w2 ⟨rfl, hb⟩
  have M2 : Hd (AppMid w w2 b N D F F ⟨k, ln + 1, sl, sz, sum⟩) := ⟨(M1b.out _).ext hb⟩
  clear hb hbd M1 M1a M1b hne e0 e1 e2 e3 e4 ef1 el
  have hw2 := dwrite_c M2.out.dk (by omega) hgh ((ln + 1) % 8) X
  rw [hw] at hw2
  have hn1 : 0 ≤ ln + 1 := by omega
  have e0 := blk_cell M2.out.bx 0
  have e1 := blk_cell M2.out.bx 1
  have e2 := blk_cell M2.out.bx 2
  have e3 := blk_cell M2.out.bx 3
  have e4 := blk_cell M2.out.bx 4
  simp only [ecell, List.getElem?_toArray, List.getElem?_cons_zero, List.getElem?_cons_succ] at e0 e1 e2 e3 e4
  have el := blk_lt M2.out.bx
  go_wp2_with fail
  refine hw2.mono ?_
  rintro e w3 ⟨rfl, F3, hd3, hu3, hf3⟩
  have M3 : Hd (AppMid w w3 b N D2 F F3 ⟨k, ln + 1, sl, sz, sum⟩) := ⟨M2.out.disk hd3 hu3 hf3 HF.out⟩
  clear hw2 hd3 hu3 hf3 M2 hn1 e0 e1 e2 e3 e4 el
  have t1 : ((r1 : Int) == 0) = false := by rw [beq_eq_false_iff_ne]; omega
  have t2 : ((r1 : Int) != 0) = true := by rw [bne_iff_ne]; omega
  clear h1
  have d0 := blk_cell M3.out.rz 0
  have df0 := blk_free M3.out.rz 0
  have d1 := blk_cell M3.out.rz 1
  have df1 := blk_free M3.out.rz 1
  have d2 := blk_cell M3.out.rz 2
  have df2 := blk_free M3.out.rz 2
  have d3 := blk_cell M3.out.rz 3
  have df3 := blk_free M3.out.rz 3
  have d4 := blk_cell M3.out.rz 4
  have df4 := blk_free M3.out.rz 4
  simp only [zcell, List.getElem?_toArray, List.getElem?_cons_zero, List.getElem?_cons_succ] at d0 d1 d2 d3 d4
  have dl := blk_lt M3.out.rz
  go_wp2_with fail
  refine bodyPost_ret (v := .tuple #[.agg #[.int .i64 0, .int .i64 0, .int .i64 0, .int .i64 0, .string ⟨#[]⟩], .int .i64 (r1 : Int)]) (by simp [results, Try.results23, go_sem, d0, d1, d2, d3, d4]) rfl ⟨rfl, AppMid.ret M3.out (by rw [HN.out]; exact Nat.le_refl _) HF.out _ _ _ _ _⟩
set_option maxHeartbeats 1000000 in
theorem append_sf {w : World} {b : Nat} {D : Ds} {F : Nat → Prop} (h : IsDisk w b D F) (k n sl sz : Int) (sum : List UInt8) (ho : D.off = false) (hops : D.ops + 2 < 1000000000) (hgh : D.gh + 1 < 1000000000) (hn : ¬ newest D = 4294967295) (hr : (En.mk k (newest D + 1) sl sz sum).right = true) (X : List UInt8) (hx : (En.mk k (newest D + 1) sl sz sum).blk = X) (D2 D3 : Ds) (r2 : Nat) (hw : D.write ((newest D + 1) % 8) X = (0, D2)) (hop2 : D2.ops ≤ D.ops + 1) (hs : D2.sync = (r2, D3)) (h1 : r2 ≠ 0) :
    Calls Try.prog 23 #[.pointer (some ⟨b, 0, none⟩), .agg #[.int .i64 k, .int .i64 n, .int .i64 sl, .int .i64 sz, .string ⟨sum.toArray⟩]] w fun r w' => r = .returned (.tuple #[.agg #[.int .i64 0, .int .i64 0, .int .i64 0, .int .i64 0, .string ⟨#[]⟩], .int .i64 (r2 : Int)]) ∧ ∃ F', IsDisk w' b D3 F' ∧ Upd F w w' ∧ ∀ k, F' k → F k ∨ w.heap.size ≤ k := by
  obtain ⟨N, hN⟩ : ∃ N, w.heap.size = N := ⟨_, rfl⟩
  have HN := Hd.mk hN
  clear hN
  have HF := Hd.mk h.lt
  have hba : Below w.heap.size w ((w.alloc (.cells #[.int .i64 k, .int .i64 n, .int .i64 sl, .int .i64 sz, .string ⟨sum.toArray⟩] 28 (0, 0))).alloc (.cells zcell.toArray 28 (0, 0))) := ((Below.refl w.heap.size w).alloc (Nat.le_refl _) _).alloc (by rw [sz_alloc]; omega) _
  have M0 : Hd (AppMid w ((w.alloc (.cells #[.int .i64 k, .int .i64 n, .int .i64 sl, .int .i64 sz, .string ⟨sum.toArray⟩] 28 (0, 0))).alloc (.cells zcell.toArray 28 (0, 0))) b N D F F ⟨k, n, sl, sz, sum⟩) :=
    ⟨⟨h.ext hba, blk_alloc (blk_new _ _ _ _ _ HN.out) _, blk_new _ _ _ _ _ (by rw [sz_alloc, HN.out]), Upd.of hba, fun k hk => .inl hk, fun hc => by have := h.lt _ hc; have := HN.out; omega, fun hc => by have := h.lt _ hc; have := HN.out; omega⟩⟩
  have hl := last_c M0.out.dk
  have hv : ∃ lk ln lsl lsz lsum lb, lastV D = .tuple #[.agg #[.int .i64 lk, .int .i64 ln, .int .i64 lsl, .int .i64 lsz, .string ⟨lsum⟩], .bool lb, .int .i64 0] ∧ ln = newest D := by
    rw [newest_eq]; unfold lastV; rw [if_neg (by rw [ho]; decide)]; exact ⟨_, _, _, _, _, _, rfl, rfl⟩
  obtain ⟨lk, ln, lsl, lsz, lsum, lb, hv, hln⟩ := hv
  rw [hv] at hl
  have hb0 := lastE_bound D
  rw [← newest_eq, ← hln] at hb0
  rw [← hln] at hn hr hx hw
  have HLN := Hd.mk hln
  clear hv ho hln
  have hbd : ∀ w, Calls Try.prog 14 #[.agg #[.int .i64 k, .int .i64 (ln + 1), .int .i64 sl, .int .i64 sz, .string ⟨sum.toArray⟩]] w fun r w' => r = .returned (.tuple #[.string ⟨X.toArray⟩, .int .i64 0]) ∧ Below w.heap.size w w' := fun w => by
    have h2 := ebuild_c ⟨k, ln + 1, sl, sz, sum⟩ w
    unfold build at h2; rw [if_pos hr, if_pos hr] at h2; rw [← hx]
    exact h2
  clear hr hx
  clear h hba
  go_enter Try.func23, Try.ntmps23
  go_wp2_with fail
  refine hl.mono ?_
  rintro e w1 ⟨rfl, hb⟩
  rw [HN.out]
  have M1 : Hd (AppMid w w1 b N D F F ⟨k, n, sl, sz, sum⟩) := ⟨M0.out.ext hb⟩
  have M1a : Hd (∀ o, AppMid w (w1.alloc o) b N D F F ⟨k, n, sl, sz, sum⟩) := ⟨fun o => M1.out.ext ((Below.refl _ _).alloc (Nat.le_refl _) _)⟩
  clear hb hl M0
  have hne : (ln == 4294967295) = false := by rw [beq_eq_false_iff_ne]; exact hn
  have M1b : Hd (∀ o, AppMid w ((w1.setCell ⟨N, 1, none⟩ (.int .i64 (ln + 1))).alloc o) b N D F F ⟨k, ln + 1, sl, sz, sum⟩) := ⟨fun o => (M1.out.setN _ (by rw [HN.out]; exact Nat.le_refl _)).ext ((Below.refl _ _).alloc (Nat.le_refl _) _)⟩
  clear hn
  have e0 := blk_cell M1.out.bx 0
  have e1 := blk_cell M1.out.bx 1
  have e2 := blk_cell M1.out.bx 2
  have e3 := blk_cell M1.out.bx 3
  have e4 := blk_cell M1.out.bx 4
  have ef1 := blk_free M1.out.bx 1
  simp only [ecell, List.getElem?_toArray, List.getElem?_cons_zero, List.getElem?_cons_succ] at e0 e1 e2 e3 e4
  have el := blk_lt M1.out.bx
  go_wp2_with fail
  refine (hbd _).mono ?_
  rintro e w2 ⟨rfl, hb⟩
  have M2 : Hd (AppMid w w2 b N D F F ⟨k, ln + 1, sl, sz, sum⟩) := ⟨(M1b.out _).ext hb⟩
  clear hb hbd M1 M1a M1b hne e0 e1 e2 e3 e4 ef1 el
  have hw2 := dwrite_c M2.out.dk (by omega) hgh ((ln + 1) % 8) X
  rw [hw] at hw2
  have hn1 : 0 ≤ ln + 1 := by omega
  have e0 := blk_cell M2.out.bx 0
  have e1 := blk_cell M2.out.bx 1
  have e2 := blk_cell M2.out.bx 2
  have e3 := blk_cell M2.out.bx 3
  have e4 := blk_cell M2.out.bx 4
  simp only [ecell, List.getElem?_toArray, List.getElem?_cons_zero, List.getElem?_cons_succ] at e0 e1 e2 e3 e4
  have el := blk_lt M2.out.bx
  go_wp2_with fail
  refine hw2.mono ?_
  rintro e w3 ⟨rfl, F3, hd3, hu3, hf3⟩
  have M3 : Hd (AppMid w w3 b N D2 F F3 ⟨k, ln + 1, sl, sz, sum⟩) := ⟨M2.out.disk hd3 hu3 hf3 HF.out⟩
  clear hw2 hd3 hu3 hf3 M2 hn1 e0 e1 e2 e3 e4 el
  have hs2 := dsync_c M3.out.dk (by have := hop2; omega)
  rw [hs] at hs2
  go_wp2_with fail
  refine hs2.mono ?_
  rintro e w4 ⟨rfl, hd4, hu4⟩
  have M4 : Hd (AppMid w w4 b N D3 F F3 ⟨k, ln + 1, sl, sz, sum⟩) := ⟨M3.out.disk hd4 hu4 (fun k hk => .inl hk) HF.out⟩
  clear hs2 hd4 hu4 M3
  have t1 : ((r2 : Int) == 0) = false := by rw [beq_eq_false_iff_ne]; omega
  have t2 : ((r2 : Int) != 0) = true := by rw [bne_iff_ne]; omega
  clear h1
  have d0 := blk_cell M4.out.rz 0
  have df0 := blk_free M4.out.rz 0
  have d1 := blk_cell M4.out.rz 1
  have df1 := blk_free M4.out.rz 1
  have d2 := blk_cell M4.out.rz 2
  have df2 := blk_free M4.out.rz 2
  have d3 := blk_cell M4.out.rz 3
  have df3 := blk_free M4.out.rz 3
  have d4 := blk_cell M4.out.rz 4
  have df4 := blk_free M4.out.rz 4
  simp only [zcell, List.getElem?_toArray, List.getElem?_cons_zero, List.getElem?_cons_succ] at d0 d1 d2 d3 d4
  have dl := blk_lt M4.out.rz
  go_wp2_with fail
  refine bodyPost_ret (v := .tuple #[.agg #[.int .i64 0, .int .i64 0, .int .i64 0, .int .i64 0, .string ⟨#[]⟩], .int .i64 (r2 : Int)]) (by simp [results, Try.results23, go_sem, d0, d1, d2, d3, d4]) rfl ⟨rfl, AppMid.ret M4.out (by rw [HN.out]; exact Nat.le_refl _) HF.out _ _ _ _ _⟩
set_option maxHeartbeats 1000000 in
theorem append_ok {w : World} {b : Nat} {D : Ds} {F : Nat → Prop} (h : IsDisk w b D F) (k n sl sz : Int) (sum : List UInt8) (ho : D.off = false) (hops : D.ops + 2 < 1000000000) (hgh : D.gh + 1 < 1000000000) (hn : ¬ newest D = 4294967295) (hr : (En.mk k (newest D + 1) sl sz sum).right = true) (X : List UInt8) (hx : (En.mk k (newest D + 1) sl sz sum).blk = X) (D2 D3 : Ds) (hw : D.write ((newest D + 1) % 8) X = (0, D2)) (hop2 : D2.ops ≤ D.ops + 1) (hs : D2.sync = (0, D3)) :
    Calls Try.prog 23 #[.pointer (some ⟨b, 0, none⟩), .agg #[.int .i64 k, .int .i64 n, .int .i64 sl, .int .i64 sz, .string ⟨sum.toArray⟩]] w fun r w' => r = .returned (.tuple #[.agg #[.int .i64 k, .int .i64 (newest D + 1), .int .i64 sl, .int .i64 sz, .string ⟨sum.toArray⟩], .int .i64 0]) ∧ ∃ F', IsDisk w' b D3 F' ∧ Upd F w w' ∧ ∀ k, F' k → F k ∨ w.heap.size ≤ k := by
  obtain ⟨N, hN⟩ : ∃ N, w.heap.size = N := ⟨_, rfl⟩
  have HN := Hd.mk hN
  clear hN
  have HF := Hd.mk h.lt
  have hba : Below w.heap.size w ((w.alloc (.cells #[.int .i64 k, .int .i64 n, .int .i64 sl, .int .i64 sz, .string ⟨sum.toArray⟩] 28 (0, 0))).alloc (.cells zcell.toArray 28 (0, 0))) := ((Below.refl w.heap.size w).alloc (Nat.le_refl _) _).alloc (by rw [sz_alloc]; omega) _
  have M0 : Hd (AppMid w ((w.alloc (.cells #[.int .i64 k, .int .i64 n, .int .i64 sl, .int .i64 sz, .string ⟨sum.toArray⟩] 28 (0, 0))).alloc (.cells zcell.toArray 28 (0, 0))) b N D F F ⟨k, n, sl, sz, sum⟩) :=
    ⟨⟨h.ext hba, blk_alloc (blk_new _ _ _ _ _ HN.out) _, blk_new _ _ _ _ _ (by rw [sz_alloc, HN.out]), Upd.of hba, fun k hk => .inl hk, fun hc => by have := h.lt _ hc; have := HN.out; omega, fun hc => by have := h.lt _ hc; have := HN.out; omega⟩⟩
  have hl := last_c M0.out.dk
  have hv : ∃ lk ln lsl lsz lsum lb, lastV D = .tuple #[.agg #[.int .i64 lk, .int .i64 ln, .int .i64 lsl, .int .i64 lsz, .string ⟨lsum⟩], .bool lb, .int .i64 0] ∧ ln = newest D := by
    rw [newest_eq]; unfold lastV; rw [if_neg (by rw [ho]; decide)]; exact ⟨_, _, _, _, _, _, rfl, rfl⟩
  obtain ⟨lk, ln, lsl, lsz, lsum, lb, hv, hln⟩ := hv
  rw [hv] at hl
  have hb0 := lastE_bound D
  rw [← newest_eq, ← hln] at hb0
  rw [← hln] at hn hr hx hw ⊢
  have HLN := Hd.mk hln
  clear hv ho hln
  have hbd : ∀ w, Calls Try.prog 14 #[.agg #[.int .i64 k, .int .i64 (ln + 1), .int .i64 sl, .int .i64 sz, .string ⟨sum.toArray⟩]] w fun r w' => r = .returned (.tuple #[.string ⟨X.toArray⟩, .int .i64 0]) ∧ Below w.heap.size w w' := fun w => by
    have h2 := ebuild_c ⟨k, ln + 1, sl, sz, sum⟩ w
    unfold build at h2; rw [if_pos hr, if_pos hr] at h2; rw [← hx]
    exact h2
  clear hr hx
  clear h hba
  go_enter Try.func23, Try.ntmps23
  go_wp2_with fail
  refine hl.mono ?_
  rintro e w1 ⟨rfl, hb⟩
  rw [HN.out]
  have M1 : Hd (AppMid w w1 b N D F F ⟨k, n, sl, sz, sum⟩) := ⟨M0.out.ext hb⟩
  have M1a : Hd (∀ o, AppMid w (w1.alloc o) b N D F F ⟨k, n, sl, sz, sum⟩) := ⟨fun o => M1.out.ext ((Below.refl _ _).alloc (Nat.le_refl _) _)⟩
  clear hb hl M0
  have hne : (ln == 4294967295) = false := by rw [beq_eq_false_iff_ne]; exact hn
  have M1b : Hd (∀ o, AppMid w ((w1.setCell ⟨N, 1, none⟩ (.int .i64 (ln + 1))).alloc o) b N D F F ⟨k, ln + 1, sl, sz, sum⟩) := ⟨fun o => (M1.out.setN _ (by rw [HN.out]; exact Nat.le_refl _)).ext ((Below.refl _ _).alloc (Nat.le_refl _) _)⟩
  clear hn
  have e0 := blk_cell M1.out.bx 0
  have e1 := blk_cell M1.out.bx 1
  have e2 := blk_cell M1.out.bx 2
  have e3 := blk_cell M1.out.bx 3
  have e4 := blk_cell M1.out.bx 4
  have ef1 := blk_free M1.out.bx 1
  simp only [ecell, List.getElem?_toArray, List.getElem?_cons_zero, List.getElem?_cons_succ] at e0 e1 e2 e3 e4
  have el := blk_lt M1.out.bx
  go_wp2_with fail
  refine (hbd _).mono ?_
  rintro e w2 ⟨rfl, hb⟩
  have M2 : Hd (AppMid w w2 b N D F F ⟨k, ln + 1, sl, sz, sum⟩) := ⟨(M1b.out _).ext hb⟩
  clear hb hbd M1 M1a M1b hne e0 e1 e2 e3 e4 ef1 el
  have hw2 := dwrite_c M2.out.dk (by omega) hgh ((ln + 1) % 8) X
  rw [hw] at hw2
  have hn1 : 0 ≤ ln + 1 := by omega
  have e0 := blk_cell M2.out.bx 0
  have e1 := blk_cell M2.out.bx 1
  have e2 := blk_cell M2.out.bx 2
  have e3 := blk_cell M2.out.bx 3
  have e4 := blk_cell M2.out.bx 4
  simp only [ecell, List.getElem?_toArray, List.getElem?_cons_zero, List.getElem?_cons_succ] at e0 e1 e2 e3 e4
  have el := blk_lt M2.out.bx
  go_wp2_with fail
  refine hw2.mono ?_
  rintro e w3 ⟨rfl, F3, hd3, hu3, hf3⟩
  have M3 : Hd (AppMid w w3 b N D2 F F3 ⟨k, ln + 1, sl, sz, sum⟩) := ⟨M2.out.disk hd3 hu3 hf3 HF.out⟩
  clear hw2 hd3 hu3 hf3 M2 hn1 e0 e1 e2 e3 e4 el
  have hs2 := dsync_c M3.out.dk (by have := hop2; omega)
  rw [hs] at hs2
  go_wp2_with fail
  refine hs2.mono ?_
  rintro e w4 ⟨rfl, hd4, hu4⟩
  have M4 : Hd (AppMid w w4 b N D3 F F3 ⟨k, ln + 1, sl, sz, sum⟩) := ⟨M3.out.disk hd4 hu4 (fun k hk => .inl hk) HF.out⟩
  clear hs2 hd4 hu4 M3
  have d0 := blk_cell M4.out.rz 0
  have df0 := blk_free M4.out.rz 0
  have d1 := blk_cell M4.out.rz 1
  have df1 := blk_free M4.out.rz 1
  have d2 := blk_cell M4.out.rz 2
  have df2 := blk_free M4.out.rz 2
  have d3 := blk_cell M4.out.rz 3
  have df3 := blk_free M4.out.rz 3
  have d4 := blk_cell M4.out.rz 4
  have df4 := blk_free M4.out.rz 4
  simp only [zcell, List.getElem?_toArray, List.getElem?_cons_zero, List.getElem?_cons_succ] at d0 d1 d2 d3 d4
  have dl := blk_lt M4.out.rz
  have e0 := blk_cell M4.out.bx 0
  have e1 := blk_cell M4.out.bx 1
  have e2 := blk_cell M4.out.bx 2
  have e3 := blk_cell M4.out.bx 3
  have e4 := blk_cell M4.out.bx 4
  simp only [ecell, List.getElem?_toArray, List.getElem?_cons_zero, List.getElem?_cons_succ] at e0 e1 e2 e3 e4
  have el := blk_lt M4.out.bx
  go_wp2_with fail
  refine bodyPost_ret (v := .tuple #[.agg #[.int .i64 k, .int .i64 (ln + 1), .int .i64 sl, .int .i64 sz, .string ⟨sum.toArray⟩], .int .i64 0]) (by simp [results, Try.results23, go_sem, d0, d1, d2, d3, d4]) rfl ⟨rfl, AppMid.ret M4.out (by rw [HN.out]; exact Nat.le_refl _) HF.out _ _ _ _ _⟩
end Go.Proofs.Ytkdakmddlkgjkaa
