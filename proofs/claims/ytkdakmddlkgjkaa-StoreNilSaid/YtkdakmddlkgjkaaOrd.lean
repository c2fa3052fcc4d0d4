import Derived.Test.YtkdakmddlkgjkaaPlan
namespace Go.Proofs.Ytkdakmddlkgjkaa
set_option maxRecDepth 100000
open Go.RowKit
/-! A region that draws its order, way by way: reads are taken first wherever they come up. -/
section
variable {P : Program} {ops : Array Oper} {md : Region.Mode} {Q : Exit → Act → World → Prop} {St : World → World → Prop} {fl : Nat → Bool}
def readsB (md : Region.Mode) (ops : Array Oper) (fl : Nat → Bool) (fin : Array Bool) : List Nat → Array Bool → Bool
  | i :: es, listed =>
    (Region.ready md ops listed).contains i && Region.free md ops listed i && (match ops[i]? with | some o => rdKind o.op | none => false) &&
    (List.range ops.size).all (fun j => listed.getD j true || j == i || fl j || anc md ops ops.size j i) && readsB md ops fl fin es (listed.setIfInBounds i true)
  | [], listed => listed == fin
theorem early_Y (hrefl : ∀ w, St w w) (htrans : ∀ a b c, St a b → St b c → St a c) (hsel : ∀ (j : Nat) (o : Oper) cs b, ops[j]? = some o → o.op ≠ .select cs b)
    (hQ : ∀ c a (d : Tmp) v w, Q (.panic c) (a.put (some d) v) w → Q (.panic c) a w) {m : Nat} {fin : Array Bool} {Kq : Act → Prop} {w : World}
    (hK : ∀ a, Kq a → wpX P md ops Q St fl m fin a w) :
    ∀ (es : List Nat) (l : List Oper) (listed : Array Bool) (a : Act), Match ops es l → ClosedAt md ops listed → readsB md ops fl fin es listed = true →
      wpQuiet P ops (fun w' => ∃ x : Later St w, w' = x.w) Kq l a → wpX P md ops Q St fl (es.length + m) listed a w
  | [], [], listed, a, _, _, hB, h => by
    rw [List.length_nil, Nat.zero_add]
    have : listed = fin := by simpa [readsB] using hB
    subst this
    exact hK a h
  | [], _ :: _, _, _, hm, _, _, _ => hm.elim
  | _ :: _, [], _, _, hm, _, _, _ => hm.elim
  | i :: es, o :: l, listed, a, hm, hc, hB, h => by
    simp only [readsB, Bool.and_eq_true] at hB
    obtain ⟨⟨⟨⟨hr, hf⟩, hk⟩, ha⟩, hB'⟩ := hB
    have hr' : i ∈ Region.ready md ops listed := by simpa using hr
    have hst : qOp P ops (fun w' => ∃ x : Later St w, w' = x.w) i (wpQuiet P ops (fun w' => ∃ x : Later St w, w' = x.w) Kq l) a := by unfold qOp; simp only [hm.1]; exact h
    obtain ⟨v, hy, hn⟩ := yieldsIn_of_qOp hm.1 hst
    have hk' : rdKind o.op = true := by simpa [hm.1] using hk
    have hy' : YieldsIf P ops (St w) o v a := by
      refine hy.imp (fun ⟨hw, hv⟩ => ⟨hw, fun u hu => ?_⟩) id
      have h3 := hv u ⟨⟨u, hu⟩, rfl⟩
      unfold Oper.quietAt at h3
      cases hrun : (execOp a.eval o).run P u with
      | ok n w' =>
        obtain ⟨x, rfl⟩ := rd_value hk' hrun
        rw [hrun] at h3
        simp only [Oper.quietUpon] at h3
        rw [h3.1, h3.2]
      | halt x w' => rw [hrun] at h3; simp only [Oper.quietUpon] at h3
    rw [List.length_cons, show es.length + 1 + m = (es.length + m) + 1 by omega]
    refine wpX_first (n := ops.size) hrefl htrans hm.1 hsel (fun c a w hp => by
      cases hd : o.dst with
      | none => rw [hd] at hp; exact hp
      | some d => rw [hd] at hp; exact hQ c a d _ w hp) _ listed a w hc (Region.free_spec hm.1 hf) ?_ hr' hy'
      (early_Y hrefl htrans hsel hQ hK es l _ _ hm.2 (hc.set hr') hB' hn)
    intro j hj
    have := List.all_eq_true.1 ha j (List.mem_range.2 hj)
    simp only [Bool.or_eq_true, beq_iff_eq] at this
    rcases this with ((h1 | h1) | h1) | h1
    · exact .inl h1
    · exact .inr (.inl h1)
    · exact .inr (.inr (.inl h1))
    · exact .inr (.inr (.inr h1))
/-- the operations of these numbers -/
def opsAt (l : List Oper) : List Nat → List Oper
  | [] => []
  | i :: es => match l[i]? with | some o => o :: opsAt l es | none => opsAt l es
theorem match_at (l : List Oper) : ∀ es : List Nat, es.all (fun i => decide (i < l.length)) = true → Match l.toArray es (opsAt l es)
  | [], _ => trivial
  | i :: es, h => by
    simp only [List.all_cons, Bool.and_eq_true, decide_eq_true_eq] at h
    have hi : l[i]? = some l[i] := List.getElem?_eq_getElem h.1
    unfold opsAt
    rw [hi]
    exact ⟨by simp, match_at l es h.2⟩
def closedB (md : Region.Mode) (ops : Array Oper) (listed : Array Bool) : Bool :=
  (List.range ops.size).all fun j => !listed.getD j false || (match ops[j]? with | some oj => oj.after.toList.all fun e => !Region.binds md e || listed.getD e.on false | none => true)
theorem closed_of {listed : Array Bool} (h : closedB md ops listed = true) : ClosedAt md ops listed := by
  intro j oj hj hl e he hb
  have hjs : j < ops.size := (Array.getElem?_eq_some_iff.1 hj).1
  have h1 := List.all_eq_true.1 h j (List.mem_range.2 hjs)
  rw [hl, hj] at h1
  simp only [Bool.not_true, Bool.false_or] at h1
  have h2 := List.all_eq_true.1 h1 e (by simpa using he)
  rw [hb] at h2
  simpa using h2
def setAll : List Nat → Array Bool → Array Bool
  | [], listed => listed
  | i :: es, listed => setAll es (listed.setIfInBounds i true)
/-- The list of what has come up, from marks. -/
def lst (bs : List Nat) : Array Bool := (bs.map (· == 1)).toArray
def readsOK (l : List Oper) (ms : List Nat) (es : List Nat) (listed fin : Array Bool) : Bool :=
  Region.noSelect l.toArray && es.all (fun i => decide (i < l.length)) && closedB .any l.toArray listed && readsB .any l.toArray (flOf ms) fin es listed
abbrev BelN (N : Nat) : World → World → Prop := fun u v => Below N u v
instance {N : Nat} {w : World} : Nonempty (Later (BelN N) w) := ⟨⟨w, Below.refl _ _⟩⟩
theorem later_blkN {N : Nat} {w : World} {b : Nat} {A : Array Value} {t : TypeId} {fr : Nat × Nat} (h : w.heap[b]? = some (.cells A t fr)) (hb : b < N) (x : Later (BelN N) w) : x.w.heap[b]? = some (.cells A t fr) := by
  rw [x.h.block b hb]; exact h
/-- The region's beginning: mark 1: what may move more than memory from block N on. -/
theorem region_X {id : Nat} {a : Act} {w : World} {l : List Oper} (N : Nat) (ms : List Nat) (listed : Array Bool) (m : Nat) (hm : P.follows .mixedOrders = true) (hl : listed = Array.replicate l.toArray.size false) (hz : l.toArray.size = m)
    (h : wpX P .any l.toArray Q (BelN N) (flOf ms) m listed a w.drew) :
    (Code.region id l.toArray true).wp P Q a w := by
  subst hl; subst hz
  exact wp_region_any hm (wpAny_of_wpX (St := BelN N) (fl := flOf ms) _ _ _ _ h)
/-- Reads that have come up, taken first. -/
theorem wpX_reads {a : Act} {w : World} {l : List Oper} {N : Nat} {ms : List Nat} {listed : Array Bool} (es : List Nat) (fin : Array Bool) (m : Nat) {f : Nat} (hf : f = es.length + m) (hB : readsOK l ms es listed fin = true)
    (hQ : ∀ c a (d : Tmp) v w, Q (.panic c) (a.put (some d) v) w → Q (.panic c) a w)
    (h : wpQuiet P l.toArray (fun w' => ∃ x : Later (BelN N) w, w' = x.w) (fun a' => wpX P .any l.toArray Q (BelN N) (flOf ms) m fin a' w) (opsAt l es) a) :
    wpX P .any l.toArray Q (BelN N) (flOf ms) f listed a w := by
  subst hf
  simp only [readsOK, Bool.and_eq_true] at hB
  obtain ⟨⟨⟨hsel, hin⟩, hc⟩, hr⟩ := hB
  exact early_Y (fun w => Below.refl _ _) (fun a b c h k => h.trans k) (Region.noSelect_spec hsel) hQ (fun a' h' => h') es _ listed a (match_at l es hin) (closed_of hc) hr h
/-- whichever comes up -/
def AllX (P : Program) (md : Region.Mode) (ops : Array Oper) (Q : Exit → Act → World → Prop) (St : World → World → Prop) (fl : Nat → Bool) (f : Nat) (listed : Array Bool) (a : Act) (w : World) (rs : List Nat) : Prop :=
  ∀ i ∈ rs, wpOp P ops Q i (fun a' w' => (fl i = true → St w w') ∧ wpX P md ops Q St fl f (listed.setIfInBounds i true) a' w') a w
theorem AllX.nil {f : Nat} {listed : Array Bool} {a : Act} {w : World} : AllX P md ops Q St fl f listed a w [] := fun _ h => by cases h
/-- An operation that is carried out. -/
theorem AllX.cons {f : Nat} {listed : Array Bool} {a : Act} {w : World} {i : Nat} {o : Oper} {rs : List Nat} (ho : ops[i]? = some o) (fin : Array Bool) (hfin : listed.setIfInBounds i true = fin) (hw : Region.wanted o (yielded ops a.tmps) = true)
    (h : o.wp P a w (fun a' w' => (fl i = true → St w w') ∧ wpX P md ops Q St fl f fin a' w') Q) (hs : AllX P md ops Q St fl f listed a w rs) :
    AllX P md ops Q St fl f listed a w (i :: rs) := fun j hj => by
  subst hfin
  rcases List.mem_cons.1 hj with rfl | hj
  · unfold wpOp; simp only [ho]; rw [if_pos hw]; exact .inl h
  · exact hs j hj
theorem wpX_ready {rs : List Nat} {f : Nat} {listed : Array Bool} {a : Act} {w : World} (hr : Region.ready md ops listed = rs) (hne : rs ≠ [])
    (h : AllX P md ops Q St fl f listed a w rs) : wpX P md ops Q St fl (f + 1) listed a w := by
  subst hr
  exact ⟨fun h0 => absurd h0 hne, h⟩
theorem wpX_done {listed : Array Bool} {a : Act} {w : World} (hr : Region.ready md ops listed = []) (h : Q .normal a w) : wpX P md ops Q St fl 0 listed a w := ⟨hr, h⟩
end
end Go.Proofs.Ytkdakmddlkgjkaa
