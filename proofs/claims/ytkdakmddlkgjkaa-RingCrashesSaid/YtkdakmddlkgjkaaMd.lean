import Derived.Test.YtkdakmddlkgjkaaPlan
import Derived.Test.YtkdakmddlkgjkaaCm
namespace Go.Proofs.Ytkdakmddlkgjkaa
set_option maxRecDepth 100000
open Go.RowKit
/-! A region that draws its order, way by way: reads are taken first wherever they come up. -/
section
variable {P : Program} {ops : Array Oper} {md : Region.Mode} {Q : Exit → Act → World → Prop} {St : World → World → Prop} {fl : Nat → Bool}
def readsB (md : Region.Mode) (ops : Array Oper) (fl : Nat → Bool) (fin : Array Bool) : List Nat → Array Bool → Bool
  | i :: es, listed =>
    (Region.ready md ops listed).contains i && Region.free md ops listed i && (match ops[i]? with | some o => rdKind o.op | none => false) &&
    (List.range ops.size).all (fun j => listed.getD j true || j == i || fl j || anc md ops ops.size j i) && readsB md ops fl fin es (listed.setIfInBounds i true)
  | [], listed => listed == fin
theorem early_Y (hrefl : ∀ w, St w w) (htrans : ∀ a b c, St a b → St b c → St a c) (hsel : ∀ (j : Nat) (o : Oper) cs b, ops[j]? = some o → o.op ≠ .select cs b)
    (hQ : ∀ c a (d : Tmp) v w, Q (.panic c) (a.put (some d) v) w → Q (.panic c) a w) {m : Nat} {fin : Array Bool} {Kq : Act → Prop} {w : World}
    (hK : ∀ a, Kq a → wpX P md ops Q St fl m fin a w) :
    ∀ (es : List Nat) (l : List Oper) (listed : Array Bool) (a : Act), Match ops es l → ClosedAt md ops listed → readsB md ops fl fin es listed = true →
      wpQuiet P ops (fun w' => ∃ x : Later St w, w' = x.w) Kq l a → wpX P md ops Q St fl (es.length + m) listed a w
  | [], [], listed, a, _, _, hB, h => by
    rw [List.length_nil, Nat.zero_add]
    have : listed = fin := by simpa [readsB] using hB
    subst this
    exact hK a h
  | [], _ :: _, _, _, hm, _, _, _ => hm.elim
  | _ :: _, [], _, _, hm, _, _, _ => hm.elim
  | i :: es, o :: l, listed, a, hm, hc, hB, h => by
    simp only [readsB, Bool.and_eq_true] at hB
    obtain ⟨⟨⟨⟨hr, hf⟩, hk⟩, ha⟩, hB'⟩ := hB
    have hr' : i ∈ Region.ready md ops listed := by simpa using hr
    have hst : qOp P ops (fun w' => ∃ x : Later St w, w' = x.w) i (wpQuiet P ops (fun w' => ∃ x : Later St w, w' = x.w) Kq l) a := by unfold qOp; simp only [hm.1]; exact h
    obtain ⟨v, hy, hn⟩ := yieldsIn_of_qOp hm.1 hst
    have hk' : rdKind o.op = true := by simpa [hm.1] using hk
    have hy' : YieldsIf P ops (St w) o v a := by
      refine hy.imp (fun ⟨hw, hv⟩ => ⟨hw, fun u hu => ?_⟩) id
      have h3 := hv u ⟨⟨u, hu⟩, rfl⟩
      unfold Oper.quietAt at h3
      cases hrun : (execOp a.eval o).run P u with
      | ok n w' =>
        obtain ⟨x, rfl⟩ := rd_value hk' hrun
        rw [hrun] at h3
        simp only [Oper.quietUpon] at h3
        rw [h3.1, h3.2]
      | halt x w' => rw [hrun] at h3; simp only [Oper.quietUpon] at h3
    rw [List.length_cons, show es.length + 1 + m = (es.length + m) + 1 by omega]
    refine wpX_first (n := ops.size) hrefl htrans hm.1 hsel (fun c a w hp => by
      cases hd : o.dst with
      | none => rw [hd] at hp; exact hp
      | some d => rw [hd] at hp; exact hQ c a d _ w hp) _ listed a w hc (Region.free_spec hm.1 hf) ?_ hr' hy'
      (early_Y hrefl htrans hsel hQ hK es l _ _ hm.2 (hc.set hr') hB' hn)
    intro j hj
    have := List.all_eq_true.1 ha j (List.mem_range.2 hj)
    simp only [Bool.or_eq_true, beq_iff_eq] at this
    rcases this with ((h1 | h1) | h1) | h1
    · exact .inl h1
    · exact .inr (.inl h1)
    · exact .inr (.inr (.inl h1))
    · exact .inr (.inr (.inr h1))
/-- the operations of these numbers -/
def opsAt (l : List Oper) : List Nat → List Oper
  | [] => []
  | i :: es => match l[i]? with | some o => o :: opsAt l es | none => opsAt l es
theorem match_at (l : List Oper) : ∀ es : List Nat, es.all (fun i => decide (i < l.length)) = true → Match l.toArray es (opsAt l es)
  | [], _ => trivial
  | i :: es, h => by
    simp only [List.all_cons, Bool.and_eq_true, decide_eq_true_eq] at h
    have hi : l[i]? = some l[i] := List.getElem?_eq_getElem h.1
    unfold opsAt
    rw [hi]
    exact ⟨by simp, match_at l es h.2⟩
def closedB (md : Region.Mode) (ops : Array Oper) (listed : Array Bool) : Bool :=
  (List.range ops.size).all fun j => !listed.getD j false || (match ops[j]? with | some oj => oj.after.toList.all fun e => !Region.binds md e || listed.getD e.on false | none => true)
theorem closed_of {listed : Array Bool} (h : closedB md ops listed = true) : ClosedAt md ops listed := by
  intro j oj hj hl e he hb
  have hjs : j < ops.size := (Array.getElem?_eq_some_iff.1 hj).1
  have h1 := List.all_eq_true.1 h j (List.mem_range.2 hjs)
  rw [hl, hj] at h1
  simp only [Bool.not_true, Bool.false_or] at h1
  have h2 := List.all_eq_true.1 h1 e (by simpa using he)
  rw [hb] at h2
  simpa using h2
def setAll : List Nat → Array Bool → Array Bool
  | [], listed => listed
  | i :: es, listed => setAll es (listed.setIfInBounds i true)
/-- The list of what has come up, from marks. -/
def lst (bs : List Nat) : Array Bool := (bs.map (· == 1)).toArray
def readsOK (l : List Oper) (ms : List Nat) (es : List Nat) (listed fin : Array Bool) : Bool :=
  Region.noSelect l.toArray && es.all (fun i => decide (i < l.length)) && closedB .any l.toArray listed && readsB .any l.toArray (flOf ms) fin es listed
abbrev BelN (N : Nat) : World → World → Prop := fun u v => Below N u v
instance {N : Nat} {w : World} : Nonempty (Later (BelN N) w) := ⟨⟨w, Below.refl _ _⟩⟩
theorem later_blkN {N : Nat} {w : World} {b : Nat} {A : Array Value} {t : TypeId} {fr : Nat × Nat} (h : w.heap[b]? = some (.cells A t fr)) (hb : b < N) (x : Later (BelN N) w) : x.w.heap[b]? = some (.cells A t fr) := by
  rw [x.h.block b hb]; exact h
/-- The region's beginning: mark 1: what may move more than memory from block N on. -/
theorem region_X {id : Nat} {a : Act} {w : World} {l : List Oper} (N : Nat) (ms : List Nat) (listed : Array Bool) (m : Nat) (hm : P.follows .mixedOrders = true) (hl : listed = Array.replicate l.toArray.size false) (hz : l.toArray.size = m)
    (h : wpX P .any l.toArray Q (BelN N) (flOf ms) m listed a w.drew) :
    (Code.region id l.toArray true).wp P Q a w := by
  subst hl; subst hz
  exact wp_region_any hm (wpAny_of_wpX (St := BelN N) (fl := flOf ms) _ _ _ _ h)
/-- Reads that have come up, taken first. -/
theorem wpX_reads {a : Act} {w : World} {l : List Oper} {N : Nat} {ms : List Nat} {listed : Array Bool} (es : List Nat) (fin : Array Bool) (m : Nat) {f : Nat} (hf : f = es.length + m) (hB : readsOK l ms es listed fin = true)
    (hQ : ∀ c a (d : Tmp) v w, Q (.panic c) (a.put (some d) v) w → Q (.panic c) a w)
    (h : wpQuiet P l.toArray (fun w' => ∃ x : Later (BelN N) w, w' = x.w) (fun a' => wpX P .any l.toArray Q (BelN N) (flOf ms) m fin a' w) (opsAt l es) a) :
    wpX P .any l.toArray Q (BelN N) (flOf ms) f listed a w := by
  subst hf
  simp only [readsOK, Bool.and_eq_true] at hB
  obtain ⟨⟨⟨hsel, hin⟩, hc⟩, hr⟩ := hB
  exact early_Y (fun w => Below.refl _ _) (fun a b c h k => h.trans k) (Region.noSelect_spec hsel) hQ (fun a' h' => h') es _ listed a (match_at l es hin) (closed_of hc) hr h
/-- whichever comes up -/
def AllX (P : Program) (md : Region.Mode) (ops : Array Oper) (Q : Exit → Act → World → Prop) (St : World → World → Prop) (fl : Nat → Bool) (f : Nat) (listed : Array Bool) (a : Act) (w : World) (rs : List Nat) : Prop :=
  ∀ i ∈ rs, wpOp P ops Q i (fun a' w' => (fl i = true → St w w') ∧ wpX P md ops Q St fl f (listed.setIfInBounds i true) a' w') a w
theorem AllX.nil {f : Nat} {listed : Array Bool} {a : Act} {w : World} : AllX P md ops Q St fl f listed a w [] := fun _ h => by cases h
/-- An operation that is carried out. -/
theorem AllX.cons {f : Nat} {listed : Array Bool} {a : Act} {w : World} {i : Nat} {o : Oper} {rs : List Nat} (ho : ops[i]? = some o) (fin : Array Bool) (hfin : listed.setIfInBounds i true = fin) (hw : Region.wanted o (yielded ops a.tmps) = true)
    (h : o.wp P a w (fun a' w' => (fl i = true → St w w') ∧ wpX P md ops Q St fl f fin a' w') Q) (hs : AllX P md ops Q St fl f listed a w rs) :
    AllX P md ops Q St fl f listed a w (i :: rs) := fun j hj => by
  subst hfin
  rcases List.mem_cons.1 hj with rfl | hj
  · unfold wpOp; simp only [ho]; rw [if_pos hw]; exact .inl h
  · exact hs j hj
theorem wpX_ready {rs : List Nat} {f : Nat} {listed : Array Bool} {a : Act} {w : World} (hr : Region.ready md ops listed = rs) (hne : rs ≠ [])
    (h : AllX P md ops Q St fl f listed a w rs) : wpX P md ops Q St fl (f + 1) listed a w := by
  subst hr
  exact ⟨fun h0 => absurd h0 hne, h⟩
theorem wpX_done {listed : Array Bool} {a : Act} {w : World} (hr : Region.ready md ops listed = []) (h : Q .normal a w) : wpX P md ops Q St fl 0 listed a w := ⟨hr, h⟩
end
end Go.Proofs.Ytkdakmddlkgjkaa
open Go.RowKit Go.Lib
namespace Go.Proofs.Ytkdakmddlkgjkaa
set_option maxRecDepth 100000
open Sha
/-! A store in the midst of a method: the store, its disk, and blocks that the method made. -/
structure Mid (w0 : World) (F0 : Nat → Prop) (p b : Nat) (k : Kp) (odd : Bool) (D : Ds) (F : Nat → Prop) (X : List (Nat × Array Value × TypeId)) (w : World) : Prop where
  st : StAt w p b k odd none
  d : IsDisk w b D F
  u : Upd (fun i => F0 i ∨ i = p) w0 w
  f : ∀ i, F i → F0 i ∨ w0.heap.size ≤ i
  np : ¬ F p
  xs : ∀ e ∈ X, w.heap[e.1]? = some (.cells e.2.1 e.2.2 (0, 0)) ∧ ¬ F e.1 ∧ e.1 ≠ p ∧ w0.heap.size ≤ e.1
section
variable {w0 w w' : World} {F0 F : Nat → Prop} {p b : Nat} {k : Kp} {odd : Bool} {D D2 : Ds} {X : List (Nat × Array Value × TypeId)}
theorem Mid.ext (h : Mid w0 F0 p b k odd D F X w) (hb : Below w.heap.size w w') : Mid w0 F0 p b k odd D F X w' :=
  ⟨h.st.below hb, h.d.ext hb, h.u.ext hb, h.f, h.np, fun e he => ⟨blk_below (h.xs e he).1 hb (blk_lt (h.xs e he).1), (h.xs e he).2⟩⟩
theorem Mid.drew (h : Mid w0 F0 p b k odd D F X w) : Mid w0 F0 p b k odd D F X w.drew := h.ext (Below.refl _ _).drew
theorem Mid.drewN (h : Mid w0 F0 p b k odd D F X w) (n : Nat) : Mid w0 F0 p b k odd D F X (w.drewN n) := h.ext (Go.Proofs.Ytkdakmddlkgjkaa.Below.drewN (Below.refl _ _) n)
theorem Mid.new (h : Mid w0 F0 p b k odd D F X w) (A : Array Value) (t : TypeId) : Mid w0 F0 p b k odd D F ((w.heap.size, A, t) :: X) (w.alloc (.cells A t (0, 0))) := by
  have hb : Below w.heap.size w (w.alloc (.cells A t (0, 0))) := (Below.refl _ _).alloc (Nat.le_refl _) _
  have h1 := h.ext hb
  refine ⟨h1.st, h1.d, h1.u, h1.f, h1.np, fun e he => ?_⟩
  rcases List.mem_cons.1 he with rfl | he
  · exact ⟨blk_new _ _ _ _ _ rfl, fun hf => by have := h.d.lt _ hf; omega, fun hp => by have h1 := blk_lt h.st.blk; have h2 : w.heap.size = p := hp; omega, h.u.size⟩
  · exact h1.xs e he
theorem Mid.app {F2 : Nat → Prop} (h : Mid w0 F0 p b k odd D F X w) (hd : IsDisk w' b D2 F2) (hu : Upd F w w') (hf : ∀ i, F2 i → F i ∨ w.heap.size ≤ i) : Mid w0 F0 p b k odd D2 F2 X w' := by
  have hn : ∀ i, i < w.heap.size → ¬ F i → ¬ F2 i := fun i hi h1 h2 => (hf i h2).elim h1 (fun h3 => by omega)
  refine ⟨h.st.keep (hu.block p (blk_lt h.st.blk) h.np) (fun q k' e => by cases e), hd, ?_, fun i hi => ?_, hn p (blk_lt h.st.blk) h.np, fun e he => ?_⟩
  · refine ⟨by rw [hu.os, h.u.os], by rw [hu.tape, h.u.tape], by rw [hu.output, h.u.output], Nat.le_trans h.u.size hu.size, fun i hi hm => ?_⟩
    rw [hu.block i (Nat.lt_of_lt_of_le hi h.u.size) (fun hf2 => (h.f i hf2).elim (fun h1 => hm (.inl h1)) (fun h1 => by omega)), h.u.block i hi hm]
  · rcases hf i hi with h1 | h1
    · exact h.f i h1
    · exact .inr (Nat.le_trans h.u.size h1)
  · have h1 := h.xs e he
    exact ⟨(hu.block e.1 (blk_lt h1.1) h1.2.1).trans h1.1, hn e.1 (blk_lt h1.1) h1.2.1, h1.2.2⟩
/-- A store into a block that is told no more. -/
theorem Mid.put {a : Addr} (h : Mid w0 F0 p b k odd D F X w) (v : Value) (hN : ¬ F a.block ∧ a.block ≠ p ∧ w0.heap.size ≤ a.block) (hX : ∀ e ∈ X, e.1 ≠ a.block) : Mid w0 F0 p b k odd D F X (w.setCell a v) := by
  refine ⟨⟨?_, fun q k' e => by cases e⟩, ?_, h.u.setNew hN.2.2 v, h.f, h.np, fun e he => ⟨blk_set_ne (h.xs e he).1 a v (hX e he), (h.xs e he).2⟩⟩
  · exact blk_set_ne h.st.blk a v (fun e => hN.2.1 e.symm)
  · exact h.d.keep (by simp [World.setCell]) (fun i hi => Below.heap_setCell _ _ _ _ (fun e => hN.1 (e ▸ hi)))
theorem Mid.tail {e : Nat × Array Value × TypeId} (h : Mid w0 F0 p b k odd D F (e :: X) w) : Mid w0 F0 p b k odd D F X w :=
  ⟨h.st, h.d, h.u, h.f, h.np, fun x hx => h.xs x (List.mem_cons_of_mem _ hx)⟩
theorem wpX_world {P : Program} {md : Region.Mode} {ops : Array Oper} {Q : Exit → Act → World → Prop} {St : World → World → Prop} {fl : Nat → Bool} {f : Nat} {listed : Array Bool} {a : Act} {w : World} (G : World → Prop) (hG : G w)
    (h : ∀ w', G w' → wpX P md ops Q St fl f listed a w') : wpX P md ops Q St fl f listed a w := h w hG
/-- what is left of it when the store itself is written -/
structure Mod (w0 : World) (F0 : Nat → Prop) (p b : Nat) (D : Ds) (F : Nat → Prop) (w : World) : Prop where
  d : IsDisk w b D F
  u : Upd (fun i => F0 i ∨ i = p) w0 w
  f : ∀ i, F i → F0 i ∨ w0.heap.size ≤ i
  np : ¬ F p
theorem Mid.mod (h : Mid w0 F0 p b k odd D F X w) : Mod w0 F0 p b D F w := ⟨h.d, h.u, h.f, h.np⟩
theorem Mod.set (h : Mod w0 F0 p b D F w) (i : Nat) (v : Value) : Mod w0 F0 p b D F (w.setCell ⟨p, i, none⟩ v) :=
  ⟨h.d.keep (by simp [World.setCell]) (fun j hj => Below.heap_setCell _ _ _ _ (fun e => h.np (by have e2 : j = p := e; rw [← e2]; exact hj))), h.u.setCell (.inr rfl) v, h.f, h.np⟩
theorem Mod.out {w : World} (h : Mod w0 F0 p b D F w) : ∃ F', IsDisk w b D F' ∧ Upd (fun i => F0 i ∨ i = p) w0 w ∧ ∀ i, F' i → F0 i ∨ w0.heap.size ≤ i := ⟨F, h.d, h.u, h.f⟩
theorem StAt.new {k2 : Kp} (h : StAt w p b k odd none) : StAt ((((w.setCell ⟨p, 0, none⟩ (.int .i64 k2.sl)).setCell ⟨p, 1, none⟩ (.string ⟨k2.tx.toArray⟩)).setCell ⟨p, 2, none⟩ (.string ⟨k2.sm.toArray⟩)).setCell ⟨p, 4, none⟩ (.bool false)) p b k2 false none := by
  refine ⟨?_, fun q k' e => by cases e⟩
  rw [blk_set (blk_set (blk_set (blk_set h.blk 0 (.int .i64 k2.sl)) 1 (.string ⟨k2.tx.toArray⟩)) 2 (.string ⟨k2.sm.toArray⟩)) 4 (.bool false)]
  rfl
end
end Go.Proofs.Ytkdakmddlkgjkaa
