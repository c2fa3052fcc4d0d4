import Derived.Outline
import Derived.Test.YtkdakmddlkgjkaaKn5b
import Derived.Test.YtkdakmddlkgjkaaGd
import Derived.Test.YtkdakmddlkgjkaaCnt
open Go.RowKit Go.Lib
namespace Go.Proofs.Ytkdakmddlkgjkaa
set_option maxRecDepth 100000
open Sha
/-! A disk made since w0, told blocks and told rows of entries beside it. -/
abbrev TB := Nat × Array Value × TypeId
structure RXF (w0 w : World) (b : Nat) (D : Ds) (X : List TB) (R : List (Value × List En)) (F : Nat → Prop) : Prop where
  d : IsDisk w b D F
  hf : ∀ i, F i → w0.heap.size ≤ i
  bel : Below w0.heap.size w0 w
  xs : ∀ e ∈ X, w.heap[e.1]? = some (.cells e.2.1 e.2.2 (0, 0)) ∧ ¬ F e.1 ∧ w0.heap.size ≤ e.1
  nd : (X.map (·.1)).Nodup
  rs : ∀ r ∈ R, OwnE w w0.heap.size r.1 r.2 ∧ ∀ g, r.1.ownBlock = some g → ¬ F g ∧ ∀ e ∈ X, e.1 ≠ g
structure RX (w0 w : World) (b : Nat) (D : Ds) (X : List TB) (R : List (Value × List En)) : Prop where
  ex : ∃ F, RXF w0 w b D X R F
section
variable {w0 w w' : World} {b : Nat} {D D2 : Ds} {X X' : List TB} {R R' : List (Value × List En)}
theorem RX.bel (h : RX w0 w b D X R) : Below w0.heap.size w0 w := h.ex.elim fun _ h => h.bel
theorem RX.ok (h : RX w0 w b D X R) : D.ok := h.ex.elim fun _ h => h.d.ok
theorem RX.at_ (h : RX w0 w b D X R) {e : TB} (he : e ∈ X) : w.heap[e.1]? = some (.cells e.2.1 e.2.2 (0, 0)) := h.ex.elim fun _ h => (h.xs e he).1
theorem RX.at0 {e : TB} (h : RX w0 w b D (e :: X) R) : w.heap[e.1]? = some (.cells e.2.1 e.2.2 (0, 0)) := h.at_ (List.mem_cons_self ..)
theorem RX.at1 {e e1 : TB} (h : RX w0 w b D (e :: e1 :: X) R) : w.heap[e1.1]? = some (.cells e1.2.1 e1.2.2 (0, 0)) := h.at_ (List.mem_cons_of_mem _ (List.mem_cons_self ..))
theorem RX.at2 {e e1 e2 : TB} (h : RX w0 w b D (e :: e1 :: e2 :: X) R) : w.heap[e2.1]? = some (.cells e2.2.1 e2.2.2 (0, 0)) := h.at_ (List.mem_cons_of_mem _ (List.mem_cons_of_mem _ (List.mem_cons_self ..)))
theorem RX.row (h : RX w0 w b D X R) {r : Value × List En} (hr : r ∈ R) : OwnE w w0.heap.size r.1 r.2 := h.ex.elim fun _ h => (h.rs r hr).1
theorem RX.ext (h : RX w0 w b D X R) (hb : Below w.heap.size w w') : RX w0 w' b D X R := by
  obtain ⟨F, h⟩ := h.ex
  exact ⟨F, h.d.ext hb, h.hf, h.bel.trans (hb.mono h.bel.size), fun e he => ⟨blk_below (h.xs e he).1 hb (blk_lt (h.xs e he).1), (h.xs e he).2⟩, h.nd, fun r hr => ⟨(h.rs r hr).1.below hb, (h.rs r hr).2⟩⟩
theorem RX.alloc (h : RX w0 w b D X R) (o : Obj) : RX w0 (w.alloc o) b D X R := h.ext ((Below.refl _ _).alloc (Nat.le_refl _) o)
theorem RX.drew (h : RX w0 w b D X R) : RX w0 w.drew b D X R := h.ext (Below.refl _ _).drew
theorem RX.drewN (h : RX w0 w b D X R) (n : Nat) : RX w0 (w.drewN n) b D X R := h.ext (Go.Proofs.Ytkdakmddlkgjkaa.Below.drewN (Below.refl _ _) n)
theorem RX.sub (h : RX w0 w b D X R) (hX : ∀ e ∈ X', e ∈ X) (hn : (X'.map (·.1)).Nodup) (hR : ∀ r ∈ R', r ∈ R) : RX w0 w b D X' R' := by
  obtain ⟨F, h⟩ := h.ex
  exact ⟨F, h.d, h.hf, h.bel, fun e he => h.xs e (hX e he), hn, fun r hr => ⟨(h.rs r (hR r hr)).1, fun g hg => ⟨((h.rs r (hR r hr)).2 g hg).1, fun e he => ((h.rs r (hR r hr)).2 g hg).2 e (hX e he)⟩⟩⟩
theorem RX.pop {e : TB} (h : RX w0 w b D (e :: X) R) : RX w0 w b D X R := by
  have hn : (X.map (·.1)).Nodup := by obtain ⟨F, h⟩ := h.ex; have := h.nd; rw [List.map_cons, List.nodup_cons] at this; exact this.2
  exact h.sub (fun x hx => List.mem_cons_of_mem _ hx) hn fun r hr => hr
theorem RX.norow (h : RX w0 w b D X R) : RX w0 w b D X [] := by
  obtain ⟨F, g⟩ := h.ex
  exact h.sub (fun x hx => hx) g.nd fun r hr => by cases hr
/-- a block that was made just now -/
theorem RX.push (h : RX w0 w b D X R) (A : Array Value) (t : TypeId) : RX w0 (w.alloc (.cells A t (0, 0))) b D ((w.heap.size, A, t) :: X) R := by
  obtain ⟨F, g⟩ := (h.alloc (.cells A t (0, 0))).ex
  obtain ⟨G, g2⟩ := h.ex
  have hlt : ∀ e ∈ X, e.1 < w.heap.size := fun e he => blk_lt (g2.xs e he).1
  have hF : ¬ F w.heap.size ∨ True := .inr trivial
  clear hF g
  have hb : Below w.heap.size w (w.alloc (.cells A t (0, 0))) := (Below.refl _ _).alloc (Nat.le_refl _) _
  refine ⟨G, g2.d.ext hb, g2.hf, g2.bel.trans (hb.mono g2.bel.size), fun e he => ?_, ?_, fun r hr => ⟨(g2.rs r hr).1.below hb, fun x hx => ⟨((g2.rs r hr).2 x hx).1, fun e he => ?_⟩⟩⟩
  · rcases List.mem_cons.1 he with rfl | he
    · exact ⟨blk_new _ _ _ _ _ rfl, fun hf => by have := g2.d.lt _ hf; omega, g2.bel.size⟩
    · exact ⟨blk_below (g2.xs e he).1 hb (hlt e he), (g2.xs e he).2⟩
  · rw [List.map_cons, List.nodup_cons]
    refine ⟨fun hm => ?_, g2.nd⟩
    obtain ⟨e, he, h1⟩ := List.mem_map.1 hm
    have := hlt e he
    omega
  · rcases List.mem_cons.1 he with rfl | he
    · have := ((g2.rs r hr).1.lt x hx).2
      show w.heap.size ≠ x
      omega
    · exact ((g2.rs r hr).2 x hx).2 e he
/-- a store into the first told block -/
theorem RX.set {N : Nat} {A : Array Value} {t : TypeId} (h : RX w0 w b D ((N, A, t) :: X) R) (i : Nat) (v : Value) : RX w0 (w.setCell ⟨N, i, none⟩ v) b D ((N, A.setIfInBounds i v, t) :: X) R := by
  obtain ⟨F, h⟩ := h.ex
  have hh := h.xs _ (List.mem_cons_self ..)
  have hnd := h.nd
  rw [List.map_cons, List.nodup_cons] at hnd
  refine ⟨F, h.d.keep (by simp [World.setCell]) (fun j hj => Below.heap_setCell _ _ _ _ (fun e => hh.2.1 (by have e2 : j = N := e; rw [← e2]; exact hj))), h.hf, h.bel.setCell (p := ⟨N, i, none⟩) hh.2.2 v, fun e he => ?_, by rw [List.map_cons, List.nodup_cons]; exact hnd, fun r hr => ⟨Own.setCell (h.rs r hr).1 ⟨N, i, none⟩ v (fun hc => ((h.rs r hr).2 N hc).2 _ (List.mem_cons_self ..) rfl), fun g hg => ⟨((h.rs r hr).2 g hg).1, fun e he => ?_⟩⟩⟩
  · rcases List.mem_cons.1 he with rfl | he
    · exact ⟨blk_set hh.1 i v, hh.2⟩
    · have h1 := h.xs e (List.mem_cons_of_mem _ he)
      exact ⟨blk_set_ne h1.1 ⟨N, i, none⟩ v (fun hc => hnd.1 (List.mem_map.2 ⟨e, he, hc⟩)), h1.2⟩
  · rcases List.mem_cons.1 he with rfl | he
    · exact ((h.rs r hr).2 g hg).2 (N, A, t) (List.mem_cons_self ..)
    · exact ((h.rs r hr).2 g hg).2 e (List.mem_cons_of_mem _ he)
/-- what a call that turns the disk leaves -/
theorem RXF.turn {F F' : Nat → Prop} (h : RXF w0 w b D X R F) (hd : IsDisk w' b D2 F') (hu : Upd F w w') (hf : ∀ i, F' i → F i ∨ w.heap.size ≤ i) : RX w0 w' b D2 X R := by
  refine ⟨F', hd, fun i hi => (hf i hi).elim (h.hf i) (fun h1 => Nat.le_trans h.bel.size h1), h.bel.trans (hu.below h.bel.size h.hf), fun e he => ?_, h.nd, fun r hr => ⟨Own.keep (h.rs r hr).1 fun g hg => hu.block g ((h.rs r hr).1.lt g hg).2 ((h.rs r hr).2 g hg).1, fun g hg => ⟨fun hc => (hf g hc).elim ((h.rs r hr).2 g hg).1 (fun h1 => by have := ((h.rs r hr).1.lt g hg).2; omega), ((h.rs r hr).2 g hg).2⟩⟩⟩
  have h1 := h.xs e he
  have hlt := blk_lt h1.1
  exact ⟨(hu.block e.1 hlt h1.2.1).trans h1.1, fun hc => (hf _ hc).elim h1.2.1 (fun h2 => by omega), h1.2.2⟩
theorem RX.fail (h : RX w0 w b D X R) (mask : Nat) : Calls Try.prog 34 #[.pointer (some ⟨b, 0, none⟩), .int .u64 (mask : Int)] w fun e w' => e = .returned (.tuple #[]) ∧ RX w0 w' b (D.fail mask) X R := by
  obtain ⟨F, h⟩ := h.ex
  exact (fail_c h.d mask).mono fun _ _ ⟨he, hd, hu⟩ => ⟨he, h.turn hd hu fun _ h => .inl h⟩
theorem RX.start (h : RX w0 w b D X R) : Calls Try.prog 36 #[.pointer (some ⟨b, 0, none⟩)] w fun e w' => e = .returned (.tuple #[]) ∧ RX w0 w' b D.start X R := by
  obtain ⟨F, h⟩ := h.ex
  exact (start_c h.d).mono fun _ _ ⟨he, hd, hu⟩ => ⟨he, h.turn hd hu fun _ h => .inl h⟩
theorem RX.plan (h : RX w0 w b D X R) (n mask : Nat) (hn : n < 9223372036854775808) (hm : mask < 18446744073709551616) : Calls Try.prog 32 #[.pointer (some ⟨b, 0, none⟩), .int .i64 (n : Int), .int .u64 (mask : Int)] w fun e w' => e = .returned (.int .i64 0) ∧ RX w0 w' b (D.plan n mask) X R := by
  obtain ⟨F, h⟩ := h.ex
  exact (plan_c h.d n mask hn hm).mono fun _ _ ⟨he, hd, hu⟩ => ⟨he, h.turn hd hu fun _ h => .inl h⟩
theorem RX.app (h : RX w0 w b D X R) (hops : D.ops + 2 < 1000000000) (hgh : D.gh + 1 < 1000000000) (e : En) :
    Calls Try.prog 23 #[.pointer (some ⟨b, 0, none⟩), ev e] w fun r w' => r = .returned (.tuple #[ev (app D e).2.1, .int .i64 ((app D e).1 : Nat)]) ∧ RX w0 w' b (app D e).2.2 X R := by
  obtain ⟨F, h⟩ := h.ex
  exact (append_c h.d hops hgh e).mono fun _ _ ⟨he, F', hd, hu, hf⟩ => ⟨he, h.turn hd hu hf⟩
theorem RX.scan (h : RX w0 w b D X R) (ho : D.off = false) : Calls Try.prog 21 #[.pointer (some ⟨b, 0, none⟩)] w fun r w' => ∃ v, r = .returned (.tuple #[v, .int .i64 0]) ∧ RX w0 w' b D X ((v, scan D 8) :: R) := by
  have hx := h
  obtain ⟨F, h⟩ := h.ex
  refine (scan_c h.d ho).mono ?_
  rintro r w' ⟨v, hr, hown, hb⟩
  refine ⟨v, hr, ?_⟩
  refine ⟨F, h.d.ext hb, h.hf, h.bel.trans (hb.mono h.bel.size), fun e he => ⟨blk_below (h.xs e he).1 hb (blk_lt (h.xs e he).1), (h.xs e he).2⟩, h.nd, fun r hr => ?_⟩
  rcases List.mem_cons.1 hr with rfl | hr
  · refine ⟨hown.mono h.bel.size, fun g hg => ⟨fun hf => ?_, fun e he => ?_⟩⟩
    · have h1 := h.d.lt g hf
      have h2 := (hown.lt g hg).1
      omega
    · have h1 := blk_lt (h.xs e he).1
      have h2 := (hown.lt g hg).1
      omega
  · exact ⟨(h.rs r hr).1.below hb, (h.rs r hr).2⟩
theorem RX.last (h : RX w0 w b D X R) : Calls Try.prog 22 #[.pointer (some ⟨b, 0, none⟩)] w fun e w' => e = .returned (lastV D) ∧ RX w0 w' b D X R := by
  have hx := h
  obtain ⟨F, h⟩ := h.ex
  exact (last_c h.d).mono fun _ _ ⟨he, hb⟩ => ⟨he, hx.ext hb⟩
theorem new_rx (n : Nat) (hn1 : 16 ≤ n) (hn2 : n ≤ 512) (w : World) :
    Calls Try.prog 24 #[.int .i64 (n : Int)] w fun e w' => ∃ b, e = .returned (.tuple #[.pointer (some ⟨b, 0, none⟩), .int .i64 0]) ∧ RX w w' b (Ds0 n) [] [] :=
  (new_d n hn1 hn2 w).mono fun _ _ ⟨b, F, he, hd, hb, hf⟩ => ⟨b, he, ⟨F, ⟨hd, hf, hb, fun e he => (by cases he), List.nodup_nil, fun r hr => (by cases hr)⟩⟩⟩
end
theorem rx_first {w0 w : World} {b : Nat} {D : Ds} {a c : TB} (h : RX w0 w b D [a, c] []) : RX w0 w b D [a] [] :=
  h.sub (fun e he => by rw [List.mem_singleton] at he; subst he; exact List.mem_cons_self ..) (by simp) (fun r hr => by cases hr)
theorem rx_five {w0 w : World} {b : Nat} {D : Ds} {a0 a1 a2 a3 a4 : TB} {R : List (Value × List En)} (h : RX w0 w b D [a0, a1, a2, a3, a4] R) : RX w0 w b D [a4, a0] [] := by
  obtain ⟨F, g⟩ := h.ex
  have h1 := g.nd
  refine h.sub (fun e he => ?_) ?_ (fun r hr => by cases hr)
  · rcases List.mem_cons.1 he with rfl | he
    · simp
    · rw [List.mem_singleton.1 he]; exact List.mem_cons_self ..
  · simp only [List.map_cons, List.map_nil, List.nodup_cons, List.mem_cons, List.not_mem_nil, or_false, not_or] at h1 ⊢
    exact ⟨fun h => h1.1.2.2.2 h.symm, not_false, List.nodup_nil⟩
theorem rx_rowat {w : World} {base og oc q : Nat} {L : List En} (h : OwnE w base (.slice (some ⟨og, 0, none⟩) L.length oc) L) (hq : q < L.length) {k n sl sz : Int} {sum : List UInt8} (he : L[q] = ⟨k, n, sl, sz, sum⟩) :
    og < w.heap.size ∧ w.cell? ⟨og, q * 5, none⟩ = some (.int .i64 k) ∧ w.cell? ⟨og, q * 5 + 1, none⟩ = some (.int .i64 n) ∧ w.cell? ⟨og, q * 5 + 2, none⟩ = some (.int .i64 sl) ∧ w.cell? ⟨og, q * 5 + 3, none⟩ = some (.int .i64 sz) ∧ w.cell? ⟨og, q * 5 + 4, none⟩ = some (.string ⟨sum.toArray⟩) ∧ (⟨k, n, sl, sz, sum⟩ : En) ∈ L := by
  have qq := OwnE.cells h q hq
  rw [he] at qq
  refine ⟨(Own.lt h og rfl).2, qq 0 (by decide), qq 1 (by decide), qq 2 (by decide), qq 3 (by decide), qq 4 (by decide), ?_⟩
  rw [← he]
  exact List.getElem_mem hq
theorem wpF_guard {P : Program} {ops : Array Oper} {Q : Exit → Act → World → Prop} {St : World → World → Prop} {K : Act → World → Prop} {o : Oper} {r : List Oper} {a : Act} {w : World} (hg : Region.wanted o (yielded ops a.tmps) = true) (h : o.wp P a w (fun a' w' => St w w' ∧ wpF P ops Q St K r a' w') Q) : wpF P ops Q St K (o :: r) a w := by
  unfold wpF
  rw [if_pos hg]
  exact h
/-- is an entry among those of a row -/
theorem among_c {w : World} {base : Nat} {v : Value} {L : List En} (h : OwnE w base v L) (e : En) (hl : L.length ≤ 100) : Calls Try.prog 40 #[v, ev e] w fun r w' => r = .returned (.bool (decide (e ∈ L))) ∧ Below w.heap.size w w' := by
  obtain ⟨k, n, sl, sz, sum⟩ := e
  show Calls Try.prog _ #[v, .agg #[.int .i64 k, .int .i64 n, .int .i64 sl, .int .i64 sz, .string ⟨sum.toArray⟩]] w _
  obtain ⟨oa, oc, rfl, hoc, hnone, hsome⟩ := h.form
  obtain ⟨A, hA⟩ : ∃ A : Bool, decide ((⟨k, n, sl, sz, sum⟩ : En) ∈ L) = A := ⟨_, rfl⟩
  rw [hA]
  obtain ⟨NB, hNB⟩ : ∃ NB, w.heap.size = NB := ⟨_, rfl⟩
  have hb0 : Below w.heap.size w (w.alloc (.cells #[.int .i64 k, .int .i64 n, .int .i64 sl, .int .i64 sz, .string ⟨sum.toArray⟩] 28 (0, 0))) := (Below.refl _ _).alloc (Nat.le_refl _) _
  have HO := Hd.mk (OwnE.below h hb0)
  have HB0 := Hd.mk hb0
  have HX0 := Hd.mk (blk_new w #[.int .i64 k, .int .i64 n, .int .i64 sl, .int .i64 sz, .string ⟨sum.toArray⟩] 28 (0, 0) NB hNB)
  have HA := Hd.mk hA
  have HLL := Hd.mk hl
  have HNN := Hd.mk hnone
  have HSM := Hd.mk hsome
  have hl1 : (L.length : Int) ≤ 100 := by omega
  clear h hA hb0 hl hnone hsome
  go_enter Try.func40, Try.ntmps40
  go_wp2_with fail
  go_loopw [5] (fun i wr => ∃ j : Nat, i = .int .i64 (j : Int) ∧ j ≤ L.length ∧ Hd (∀ x ∈ L.take j, x ≠ ⟨k, n, sl, sz, sum⟩) ∧ Hd (OwnE wr base (.slice oa L.length oc) L) ∧ Hd (wr.heap[NB]? = some (.cells #[.int .i64 k, .int .i64 n, .int .i64 sl, .int .i64 sz, .string ⟨sum.toArray⟩] 28 (0, 0))) ∧ Hd (Below w.heap.size w wr)) (fun i _ => L.length - (intOf i).toNat)
  case atStart => exact ⟨0, rfl, Nat.zero_le _, ⟨fun x hx => by simp at hx⟩, HO, HX0, HB0⟩
  case round =>
    clear HO HX0 HB0
    obtain ⟨j, rfl, hj, HT, HO, HX, HB⟩ := hrel
    by_cases hlt : j < L.length
    · obtain ⟨og, hog⟩ : ∃ og, oa = some ⟨og, 0, none⟩ := by
        cases oa with
        | none => have := (HNN.out rfl).1; omega
        | some x => obtain ⟨q, hq, _⟩ := HSM.out x rfl; exact ⟨q, by rw [hq]⟩
      subst hog
      obtain ⟨⟨k2, n2, sl2, sz2, sum2⟩, he⟩ : ∃ x, L[j] = x := ⟨_, rfl⟩
      have q := HO.out.cells j hlt
      rw [he] at q
      have q0 := q 0 (by decide)
      have q1 := q 1 (by decide)
      have q2 := q 2 (by decide)
      have q3 := q 3 (by decide)
      have q4 := q 4 (by decide)
      have b0 := blk_cell HX.out 0
      have b1 := blk_cell HX.out 1
      have b2 := blk_cell HX.out 2
      have b3 := blk_cell HX.out 3
      have b4 := blk_cell HX.out 4
      simp only [ecell, Nat.add_zero, List.getElem?_toArray, List.getElem?_cons_zero, List.getElem?_cons_succ] at q0 q1 q2 q3 q4 b0 b1 b2 b3 b4
      have u1 : (0 : Int) ≤ (j : Int) := by omega
      have u2 : (j : Int) < (L.length : Int) := by omega
      have ee := eq_ent k2 n2 sl2 sz2 k n sl sz sum2 sum
      have HE := Hd.mk he
      have HLT := Hd.mk hlt
      clear q he
      by_cases hq : (⟨k2, n2, sl2, sz2, sum2⟩ : En) = ⟨k, n, sl, sz, sum⟩
      · rw [decide_eq_true hq] at ee
        have HQ := Hd.mk hq
        clear hq
        go_upto_region 4 with fail
        go_quiet (fail)
        go_wp2_with fail
        go_ret
        refine ⟨?_, Go.Proofs.Ytkdakmddlkgjkaa.Below.drewN HB.out nq⟩
        have hA2 : A = true := by
          rw [← HA.out, decide_eq_true]
          rw [← HQ.out, ← HE.out]
          exact List.getElem_mem _
        rw [hA2]
        rfl
      · rw [decide_eq_false hq] at ee
        have HQ := Hd.mk hq
        clear hq
        go_upto_region 4 with fail
        go_quiet (fail)
        go_wp2_with fail
        go_roundw
        case rel =>
          refine ⟨j + 1, by go_num, HLT.out, ⟨fun x hx => ?_⟩, ⟨HO.out.drewN nq⟩, ⟨HX.out⟩, ⟨Go.Proofs.Ytkdakmddlkgjkaa.Below.drewN HB.out nq⟩⟩
          rw [List.take_add_one, List.getElem?_eq_getElem HLT.out] at hx
          rcases List.mem_append.1 hx with h1 | h1
          · exact HT.out x h1
          · have h2 : x = L[j] := by simpa using h1
            rw [h2, HE.out]
            exact HQ.out
        case measure => simp [intOf]; have := HLT.out; omega
    · have hn : ¬ (j : Int) < (L.length : Int) := by omega
      have hA2 : A = false := by
        rw [← HA.out, decide_eq_false]
        intro hm
        exact HT.out _ (by rw [List.take_of_length_le (by omega)]; exact hm) rfl
      subst hA2
      clear hlt
      go_wp2_with fail
      go_ret
      exact ⟨rfl, hNB ▸ HB.out⟩
end Go.Proofs.Ytkdakmddlkgjkaa
