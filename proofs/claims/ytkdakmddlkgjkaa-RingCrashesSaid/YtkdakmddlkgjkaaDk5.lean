import Derived.Outline
import Derived.Test.YtkdakmddlkgjkaaDk4
open Go.RowKit Go.Lib
namespace Go.Proofs.Ytkdakmddlkgjkaa
set_option maxRecDepth 100000
section
variable {P : Program} {ops : Array Oper} {Q : Exit → Act → World → Prop} {dst : Option Tmp} {ty : TypeId} {pos : String} {aft : Array Edge} {a : Act} {w : World} {K : Act → World → Prop}
/-- a slice literal of one struct -/
theorem W_build1 (t e : TypeId) (x : Operand) (cs : List Value)
    (hT : P.underlying t = some (.slice e) ∧ (P.info? e).map (·.size) = some cs.length ∧ ((P.info? e).bind (·.zero)).isSome = true)
    (hv : a.eval x = .agg cs.toArray ∧ 0 < cs.length ∧ cs.length ≤ 2 ^ 24)
    (h : K (a.put dst (.slice (some ⟨w.heap.size, 0, none⟩) 1 1)) (w.alloc (.cells cs.toArray e))) :
    Oper.wp P ⟨dst, .buildSlice t 1 #[(0, x)], ty, pos, aft, none⟩ a w K Q := by
  obtain ⟨h1, h2, h3⟩ := hT
  obtain ⟨hv1, hv2, hv3⟩ := hv
  cases hie : P.info? e with
  | none => simp [hie] at h2
  | some ie =>
    simp only [hie, Option.map_some, Option.some.injEq, Option.bind_some] at h2 h3
    obtain ⟨z, hz⟩ := Option.isSome_iff_exists.1 h3
    refine wp_buildSlice t e 1 _ rfl cs.toArray ie z h1 hie hz (by rw [h2]; omega) (by rw [h2]; omega) ?_ h
    rw [h2]
    have he : ((#[(0, x)] : Array (Nat × Operand)).map fun (i, x) => (i, a.eval x)).toList = (([.agg cs.toArray] : List Value).zipIdx 0).map fun x => (x.2, x.1) := by
      simp [hv1]
    rw [he]
    obtain ⟨r, hr, hsz, hk⟩ := Great.fill_dense (s := cs.length) hv2 [.agg cs.toArray] 0 ((Array.range (1 * cs.length)).map (z.cells[· % z.cells.size]!)) (fun v hv => by rw [List.mem_singleton.1 hv]; rfl) (by simp)
    rw [hr]
    congr 1
    apply Array.ext_getElem?
    intro k
    rw [hk k]
    by_cases hlt : k < cs.length
    · rw [if_pos ⟨by omega, by simp; omega⟩, Nat.div_eq_of_lt hlt, Nat.mod_eq_of_lt hlt]
      rfl
    · rw [if_neg (by simp; omega), Array.getElem?_eq_none (by simp; omega), Array.getElem?_eq_none (by simp; omega)]
end
theorem info_write : (Try.prog.info? 112).map (fun i => (i.zero, i.size, i.bytes)) = some (some (.agg #[.int .i64 0, .string ⟨#[]⟩]), 2, 24) := by kernel_rfl
theorem wcells_one (W : List (Nat × List UInt8)) : ∀ u ∈ wcells W, u.oneCell' = true := by
  intro u hu
  obtain ⟨p, _, hp⟩ := List.mem_flatMap.1 hu
  simp only [List.mem_cons, List.not_mem_nil, or_false] at hp
  rcases hp with rfl | rfl <;> rfl
section
variable {ops : Array Oper} {Q : Exit → Act → World → Prop} {dst : Option Tmp} {ty : TypeId} {pos : String} {aft : Array Edge} {a : Act} {w : World} {K : Act → World → Prop} {base : Nat} {v : Value} {W : List (Nat × List UInt8)}
/-- a write is appended to those that wait -/
theorem W_appW (s x : Operand) (g c i : Nat) (t : List UInt8) (hown : OwnW w base v W)
    (hp : a.eval s = v ∧ a.eval x = .slice (some ⟨g, 0, none⟩) 1 c ∧ w.heap[g]? = some (.cells #[.int .i64 (i : Int), sv t] 112 (0, 0)) ∧ W.length < 1000000000 ∧ base ≤ w.heap.size)
    (h : ∀ v' w', OwnW w' base v' (W ++ [(i, t)]) → w.grownBy w' v.ownBlock → (v'.ownBlock = v.ownBlock ∨ v'.ownBlock = some w.heap.size) → K (a.put dst v') w') :
    Oper.wp Try.prog ⟨dst, .call { callee := .builtin .append, args := #[s, x], argTypes := #[105, 105] }, ty, pos, aft, none⟩ a w K Q := by
  obtain ⟨inf, hi, hz, hs, hb⟩ := info_parts info_write
  obtain ⟨h1, h2, h3, h4, h5⟩ := hp
  refine W_app _ s x inf _ 24 ⟨Try.underlying105, hi, hz, hs, hb, rfl, by omega⟩ h1 hown ⟨g, 0, none⟩ 1 c (wcells [(i, t)]) h2 ⟨rfl, ?_, wcells_one _⟩ ⟨by simp only [maxLen]; omega, by omega, h5⟩ ?_
  · intro j u hj
    have hadd : (⟨g, 0, none⟩ : Addr).add j = ⟨g, j, none⟩ := by unfold Addr.add; split <;> simp_all
    rw [hadd, blk_cell h3]
    show ([.int .i64 (i : Int), sv t].toArray)[j]? = _
    rw [List.getElem?_toArray]
    exact hj
  · intro v' w' hown' hg hat
    exact h v' w' (by unfold OwnW; rw [List.length_append, wcells_append]; exact hown') hg hat
end
theorem put_ok {D : Ds} (ok : D.ok) (hgh : D.gh + 1 < 1000000000) (i : Nat) (s : List UInt8) (hi : i < D.L.length) (hs : s.length = 64) : ({ D with W := D.W ++ [(i, s)], gh := D.gh + 1 } : Ds).ok := by
  refine ⟨ok.lo, ok.hi, ok.l64, ?_, ?_, ok.opb, hgh, ok.aft, ok.mask⟩
  · intro p hp
    rcases List.mem_append.1 hp with h | h
    · exact ok.w64 p h
    · rw [List.mem_singleton.1 h]; exact ⟨hi, hs⟩
  · have := ok.wops
    show (D.W ++ [(i, s)]).length ≤ D.gh + 1
    simp; omega
/-- Behind the store into the map. -/
structure MidPut (w w1 : World) (b : Nat) (lv wv : Value) (m : Nat) (D : Ds) (F : Nat → Prop) (i : Nat) : Prop where
  blk : w1.heap[b]? = some (.cells (dcells lv wv m D) 109 (0, 0))
  ls : OwnS w1 0 lv D.L
  ws : OwnW w1 0 wv D.W
  mp : MapIs w1 m (D.gh + 1) (updF (nwf D.W) i (some D.W.length))
  up : Upd F w w1
theorem MidPut.of {w w1 : World} {b : Nat} {lv wv : Value} {m : Nat} {D : Ds} {F : Nat → Prop} {i nr : Nat} (H : DiskAt w b lv wv m D F) (hm : MapIs w1 m (D.gh + 1) (updF (nwf D.W) i (some D.W.length))) (hg : (w.drewN nr).grownBy w1 (some m)) : MidPut w w1 b lv wv m D F i := by
  have hmn := H.mne
  have hbl : ∀ x, x < w.heap.size → x ≠ m → w1.heap[x]? = w.heap[x]? := fun x hx hxm => hg.block x hx (fun e => hxm (by cases e; rfl))
  refine ⟨by rw [hbl b (blk_lt H.blk) (fun e => hmn.1 e.symm)]; exact H.blk, H.ls.keep fun x hx => hbl x (H.ls.lt x hx).2 (fun e => hmn.2.1 (by rw [hx, e])), H.ws.keep fun x hx => hbl x (H.ws.lt x hx).2 (fun e => hmn.2.2 (by rw [hx, e])), hm, ?_⟩
  exact ⟨hg.os, hg.tape, hg.output, hg.size, fun x hx hxF => hbl x hx (fun e => hxF (by rw [e]; exact H.fm))⟩
/-- F may have grown by new blocks. -/
theorem Upd.trans2 {F : Nat → Prop} {a b c : World} {n : Nat} (h : Upd F a b) (k : Upd (fun k => (F k ∨ a.heap.size ≤ k) ∧ k < n) b c) : Upd F a c :=
  ⟨k.os.trans h.os, k.tape.trans h.tape, k.output.trans h.output, Nat.le_trans h.size k.size, fun i hi hm => (k.block i (Nat.lt_of_lt_of_le hi h.size) (fun hc => hc.1.elim hm (fun hc => by omega))).trans (h.block i hi hm)⟩
/-- Behind the append: the new row's value is put into its field. -/
theorem MidPut.done {w w1 w2 : World} {b : Nat} {lv wv v' : Value} {m : Nat} {D : Ds} {F : Nat → Prop} {i : Nat} {s : List UInt8} {o : Obj} (H : DiskAt w b lv wv m D F) (h : MidPut w w1 b lv wv m D F i) (hok : ({ D with W := D.W ++ [(i, s)], gh := D.gh + 1 } : Ds).ok)
    (h2 : OwnW w2 0 v' (D.W ++ [(i, s)])) (hg : (w1.alloc o).grownBy w2 wv.ownBlock) (hat : v'.ownBlock = wv.ownBlock ∨ v'.ownBlock = some (w1.alloc o).heap.size) :
    IsDisk (w2.setCell ⟨b, 1, none⟩ v') b { D with W := D.W ++ [(i, s)], gh := D.gh + 1 } (fun k => (F k ∨ w.heap.size ≤ k) ∧ k < w2.heap.size) ∧ Upd F w (w2.setCell ⟨b, 1, none⟩ v') := by
  have hal : ∀ x, x < w1.heap.size → wv.ownBlock ≠ some x → w2.heap[x]? = w1.heap[x]? := by
    intro x hx hxw
    rw [hg.block x (by rw [sz_alloc]; omega) (fun e => hxw e.symm), Below.heap_alloc _ _ _ hx]
  have hsz : w.heap.size ≤ w1.heap.size := h.up.size
  have hsz2 : w1.heap.size < w2.heap.size := by have := hg.size; rw [sz_alloc] at this; omega
  have hmn := H.mne
  have hlt := H.lt
  have hmlt := h.mp.lt
  have hv'b : v'.ownBlock ≠ some b := by
    rcases hat with e | e
    · rw [e]; exact H.wb
    · rw [e]; intro e2
      have := H.lt b H.fb
      simp only [Option.some.injEq, sz_alloc] at e2
      omega
  have hlb : ∀ k, lv.ownBlock = some k → v'.ownBlock ≠ some k := by
    intro k hk
    rcases hat with e | e
    · rw [e]; exact H.lw k hk
    · rw [e]; intro e2
      have := H.lt k (H.fl k hk)
      simp only [Option.some.injEq, sz_alloc] at e2
      omega
  have hu : Upd F w w2 := by
    refine ((h.up.alloc o).trans ⟨hg.os, hg.tape, hg.output, hg.size, fun k hk hkF => hg.block k hk fun e => hkF (H.fw k e.symm)⟩)
  have hu2 : Upd F w (w2.setCell ⟨b, 1, none⟩ v') := hu.setCell (p := ⟨b, 1, none⟩) H.fb _
  refine ⟨⟨lv, v', m, ?_, ?_, ?_, ?_, H.lb, hv'b, hlb, ?_, ?_, ?_, ?_, ?_, hok⟩, hu2⟩
  · have hb : w2.heap[b]? = some (.cells (dcells lv wv m D) 109 (0, 0)) := by
      rw [hal b (blk_lt h.blk) H.wb]; exact h.blk
    rw [blk_set hb]; rfl
  · refine Own.setCell ?_ _ _ H.lb
    exact h.ls.keep fun x hx => hal x (h.ls.lt x hx).2 (H.lw x hx)
  · exact Own.setCell h2 _ _ hv'b
  · show MapIs _ m (D.gh + 1) (nwf (D.W ++ [(i, s)]))
    rw [nwf_snoc]
    refine MapIs.keep (w := w2) ?_ (Below.heap_setCell _ _ _ _ hmn.1)
    exact h.mp.keep (hal m hmlt hmn.2.2)
  · exact ⟨.inl H.fb, by have := H.lt b H.fb; omega⟩
  · exact ⟨.inl H.fm, by omega⟩
  · exact fun k hk => ⟨.inl (H.fl k hk), by have := H.lt k (H.fl k hk); omega⟩
  · intro k hk
    refine ⟨?_, (h2.lt k hk).2⟩
    rcases hat with e | e
    · rw [e] at hk; exact .inl (H.fw k hk)
    · rw [e] at hk
      simp only [Option.some.injEq, sz_alloc] at hk
      exact .inr (by omega)
  · intro k hk
    have := hk.2
    simpa [World.setCell] using this
set_option maxHeartbeats 1000000 in
theorem put_d {w : World} {b : Nat} {D : Ds} {F : Nat → Prop} (h : IsDisk w b D F) (hops : D.ops + 1 < 1000000000) (hgh : D.gh + 1 < 1000000000) (ho : D.off = false) (i : Nat) (s : List UInt8) (hi : i < D.L.length) (hs : s.length = 64) :
    Calls Try.prog 28 #[.pointer (some ⟨b, 0, none⟩), .int .i64 (i : Int), .string ⟨s.toArray⟩] w fun e w' => e = .returned (.int .i64 (if (D.put i s).1 then 7 else 0)) ∧ ∃ F', IsDisk w' b (D.put i s).2 F' ∧ Upd F w w' ∧ ∀ k, F' k → F k ∨ w.heap.size ≤ k := by
  have hr : wr D (i : Int) = 0 := by unfold wr; rw [if_neg (by rw [ho]; decide), if_pos ⟨by omega, by omega⟩]
  obtain ⟨q, D2, hq⟩ : ∃ q D2, D.put i s = (q, D2) := ⟨_, _, rfl⟩
  rw [hq]
  show Calls Try.prog _ _ _ fun e w' => e = .returned (.int .i64 (if q then 7 else 0)) ∧ ∃ F', IsDisk w' b D2 F' ∧ Upd F w w' ∧ ∀ k, F' k → F k ∨ w.heap.size ≤ k
  have HQ := Hd.mk hq
  clear hq
  have HW := wrong_c h (i : Int)
  rw [hr] at HW
  obtain ⟨lv, wv, m, h⟩ := h
  have ok := h.ok
  have hi62 : i < 4611686018427387904 := by have := ok.hi; omega
  have hlen : ((s.length : Nat) : Int) = 64 := by omega
  obtain ⟨a, c, rfl⟩ := OwnW.form h.ws
  have c1 : w.cell? ⟨b, 1, none⟩ = some (.slice a D.W.length c) := blk_cell h.blk 1
  have c2 : w.cell? ⟨b, 2, none⟩ = some (.map (some m)) := blk_cell h.blk 2
  have hwl : D.W.length < 1000000000 := by have := ok.wops; have := ok.ghb; omega
  have H := Hd.mk h
  have HS := Hd.mk hs
  have OK := Hd.mk ok
  clear h hr ho ok
  have hl1 : ((s.length : Int) != 64) = false := by rw [bne_eq_false_iff_eq]; exact hlen
  clear hlen hs
  go_enter Try.func28, Try.ntmps28
  go_wp2_with fail
  refine HW.mono ?_
  rintro e w' ⟨rfl, rfl⟩
  clear HW
  go_wp2_with fail
  refine region_qd 10 (by kernel_rfl) (by kernel_rfl) ?_
  simp only [List.take_succ_cons, List.take_zero, List.drop_succ_cons, List.drop_zero]
  repeat go_big_quiet_step (fail)
  refine wpQuiet_nil ?_
  intro nr
  refine wpList_plain rfl fun K hK => W_mapstore (.tmp 20) (.tmp 21) (.tmp 26) i D.W.length (H.out.mp.keep (w' := w.drewN nr) rfl) ⟨rfl, rfl, rfl, by have := OK.out.ghb; omega, hi62, by omega⟩ fun w1 h1 h2 h3 => hK _ _ ?_
  have M1 : Hd (MidPut w w1 b lv (.slice a D.W.length c) m D F i) := ⟨MidPut.of H.out h1 h2⟩
  have c1 : w1.cell? ⟨b, 1, none⟩ = some (.slice a D.W.length c) := blk_cell M1.out.blk 1
  have f1 : w1.frozen? ⟨b, 1, none⟩ = false := blk_free M1.out.blk 1
  clear hK h1 h2 h3 c2
  have HOW : Hd (OwnW (w1.alloc (.cells #[.int .i64 (i : Int), .string ⟨s.toArray⟩] 112 (0, 0))) 0 (.slice a D.W.length c) D.W) := ⟨Own.alloc M1.out.ws _⟩
  have hB0 : Hd (0 ≤ (w1.alloc (.cells #[.int .i64 (i : Int), .string ⟨s.toArray⟩] 112 (0, 0))).heap.size) := ⟨Nat.zero_le _⟩
  go_wp2_with (
    (with_reducible refine wpList_plain rfl fun K hK => W_appW (.tmp 31) (.tmp 35) w1.heap.size 1 i s HOW.out ?hq fun v' w2 h1 h2 h3 => hK _ _ ?_);
    (case hq => exact ⟨rfl, rfl, blk_new _ _ _ _ _ rfl, hwl, hB0.out⟩);
    obtain ⟨a2, k2, hv2⟩ := OwnW.form h1; subst hv2;
    have G1 := Hd.mk h1; have G2 := Hd.mk h2; have G3 := Hd.mk h3;
    have hb2 : w2.heap[b]? = some (.cells (dcells lv (.slice a D.W.length c) m D) 109 (0, 0)) := (by rw [h2.block b (by rw [sz_alloc]; have := blk_lt M1.out.blk; omega) (fun e => H.out.wb e.symm), Below.heap_alloc _ _ _ (blk_lt M1.out.blk)]; exact M1.out.blk);
    have c1' : w2.cell? ⟨b, 1, none⟩ = some (.slice a D.W.length c) := blk_cell hb2 1;
    have f1' : w2.frozen? ⟨b, 1, none⟩ = false := blk_free hb2 1;
    clear hK h1 h2 h3 hb2 c1 f1 hB0)
  have ⟨r1, r2⟩ := MidPut.done H.out M1.out (put_ok OK.out hgh i s hi HS.out) G1.out G2.out G3.out
  rw [show (D.W ++ [(i, s)]).length = D.W.length + 1 by simp] at r1 r2
  refine (cut_c r1 hops).mono ?_
  rintro e w3 ⟨rfl, g1, g2⟩
  have hsz : w.heap.size ≤ w2.heap.size := by have := r2.size; simpa [World.setCell] using this
  have G : Hd (IsDisk w3 b D2 (fun k => (F k ∨ w.heap.size ≤ k) ∧ k < w2.heap.size) ∧ Upd F w w3) := ⟨by rw [show D2 = (D.put i s).2 by rw [HQ.out]]; exact g1, r2.trans2 g2⟩
  clear g1 g2 r1 r2 c1' f1' G1 G2 G3
  rw [show ({ D with W := D.W ++ [(i, s)], gh := D.gh + 1 } : Ds).cut.1 = q from congrArg Prod.fst HQ.out]
  cases q with
  | true =>
    go_wp2_with fail
    go_ret
    exact ⟨rfl, _, G.out.1, G.out.2, fun k hk => hk.1⟩
  | false =>
    go_wp2_with fail
    go_ret
    exact ⟨rfl, _, G.out.1, G.out.2, fun k hk => hk.1⟩
end Go.Proofs.Ytkdakmddlkgjkaa
