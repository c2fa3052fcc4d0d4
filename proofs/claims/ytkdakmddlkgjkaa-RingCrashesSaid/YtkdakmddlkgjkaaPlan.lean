import Derived.OrdersHeld
import Derived.Test.YtkdakmddlkgjkaaReg
namespace Go.Proofs.Ytkdakmddlkgjkaa
set_option maxRecDepth 100000
open Go.RowKit
section
variable {P : Program} {ops : Array Oper} {md : Region.Mode} {Q : Exit → Act → World → Prop} {St : World → World → Prop} {fl : Nat → Bool}

/-- Whatever order is picked; behind a marked operation the world has moved as 'St' says. -/
def wpX (P : Program) (md : Region.Mode) (ops : Array Oper) (Q : Exit → Act → World → Prop) (St : World → World → Prop) (fl : Nat → Bool) : Nat → Array Bool → Act → World → Prop
  | 0, listed, a, w => Region.ready md ops listed = [] ∧ Q .normal a w
  | f + 1, listed, a, w =>
    (Region.ready md ops listed = [] → Q .normal a w) ∧
    ∀ i ∈ Region.ready md ops listed, wpOp P ops Q i (fun a' w' => (fl i = true → St w w') ∧ wpX P md ops Q St fl f (listed.setIfInBounds i true) a' w') a w

theorem wpAny_of_wpX : ∀ (f : Nat) (listed : Array Bool) (a : Act) (w : World), wpX P md ops Q St fl f listed a w → wpAny P md ops Q f listed a w
  | 0, _, _, _, h => h
  | f + 1, _, _, _, h => ⟨h.1, fun i hi => wpOp_mono (fun a' w' h' => wpAny_of_wpX f _ a' w' h'.2) (h.2 i hi)⟩

/-- j waits for i, through others perhaps. -/
def anc (md : Region.Mode) (ops : Array Oper) : Nat → Nat → Nat → Bool
  | 0, _, _ => false
  | f + 1, j, i =>
    match ops[j]? with
    | some oj => oj.after.any fun e => Region.binds md e && (e.on == i || anc md ops f e.on i)
    | none => false

def ClosedAt (md : Region.Mode) (ops : Array Oper) (listed : Array Bool) : Prop :=
  ∀ j oj, ops[j]? = some oj → listed.getD j false = true → ∀ e ∈ oj.after, Region.binds md e = true → listed.getD e.on false = true

theorem anc_listed {listed : Array Bool} (hc : ClosedAt md ops listed) : ∀ (f j i : Nat), anc md ops f j i = true →
    (∀ oj, ops[j]? = some oj → ∀ e ∈ oj.after, Region.binds md e = true → listed.getD e.on false = true) → listed.getD i false = true
  | 0, _, _, h, _ => by simp [anc] at h
  | f + 1, j, i, h, hall => by
    unfold anc at h
    split at h
    · rename_i oj hj
      obtain ⟨e, he, hb⟩ := Array.any_eq_true'.1 h
      simp only [Bool.and_eq_true, Bool.or_eq_true, beq_iff_eq] at hb
      have h1 := hall oj hj e he hb.1
      rcases hb.2 with h2 | h2
      · rw [← h2]; exact h1
      · exact anc_listed hc f e.on i h2 (fun o ho => hc _ o ho h1)
    · cases h

theorem ClosedAt.set {listed : Array Bool} {i : Nat} (hc : ClosedAt md ops listed) (hi : i ∈ Region.ready md ops listed) : ClosedAt md ops (listed.setIfInBounds i true) := by
  obtain ⟨_, oi, hoi, hall⟩ := mem_ready.1 hi
  intro j oj hj hl e he hb
  by_cases hij : i = j
  · subst hij
    have : oj = oi := Option.some.inj (hj.symm.trans hoi)
    subst this
    exact getD_set_true (hall e he hb)
  · rw [getD_set_ne false hij] at hl
    exact getD_set_true (hc j oj hj hl e he hb)

/-- An operation that yields its value in every world that the marked ones may come to may be taken first. -/
theorem wpX_first (hrefl : ∀ w, St w w) (htrans : ∀ a b c, St a b → St b c → St a c) {i n : Nat} {oi : Oper} {v : Value} (hi : ops[i]? = some oi) (hsel : ∀ (j : Nat) (o : Oper) cs b, ops[j]? = some o → o.op ≠ .select cs b)
    (hQ : ∀ c a w, Q (.panic c) (a.put oi.dst v) w → Q (.panic c) a w) :
    ∀ (f : Nat) (listed : Array Bool) (a : Act) (w : World), ClosedAt md ops listed →
      (∀ j oj, ops[j]? = some oj → j ≠ i → listed.getD j true = false → (∀ e ∈ oj.after, Region.binds md e = true → e.on ≠ i) → oi.apart ops oj = true) →
      (∀ j, j < ops.size → listed.getD j true = true ∨ j = i ∨ fl j = true ∨ anc md ops n j i = true) →
      i ∈ Region.ready md ops listed → YieldsIf P ops (St w) oi v a →
      wpX P md ops Q St fl f (listed.setIfInBounds i true) (a.put oi.dst v) w → wpX P md ops Q St fl (f + 1) listed a w := by
  intro f
  induction f with
  | zero =>
    intro listed a w _ _ _ hr hy H
    refine ⟨fun h => (by rw [h] at hr; cases hr), fun j hj => ?_⟩
    by_cases hji : j = i
    · subst hji; exact hy.wpOp hi (hrefl w) ⟨fun _ => hrefl w, H⟩
    · have := ready_mono hj hji
      rw [H.1] at this
      cases this
  | succ f ih =>
    intro listed a w hcl hfree hfl hr hy H
    refine ⟨fun h => (by rw [h] at hr; cases hr), fun j hj => ?_⟩
    by_cases hji : j = i
    · subst hji; exact hy.wpOp hi (hrefl w) ⟨fun _ => hrefl w, H⟩
    · have h1 := H.2 j (ready_mono hj hji)
      obtain ⟨hjun, oj, hoj, hall⟩ := mem_ready.1 hj
      have hiun : listed.getD i true = false := (mem_ready.1 hr).1
      have hnot : ∀ e ∈ oj.after, Region.binds md e = true → e.on ≠ i := fun e he hb heq => by
        have h1 := hall e he hb
        rw [heq, getD_both hiun] at h1
        cases h1
      have hjs : j < ops.size := (Array.getElem?_eq_some_iff.1 hoj).1
      have hflj : fl j = true := by
        rcases hfl j hjs with h | h | h | h
        · rw [hjun] at h; cases h
        · exact absurd h hji
        · exact h
        · have := anc_listed hcl n j i h (fun o ho e he hb => by
            have : o = oj := Option.some.inj (ho.symm.trans hoj)
            subst this
            exact hall e he hb)
          rw [getD_both hiun] at this
          cases this
      have h2 := wpOp_putIf hoj (hfree j oj hoj hji hjun hnot) (fun cs b => hsel i oi cs b hi) (fun cs b => hsel j oj cs b hoj) hQ hy h1
      refine wpOp_mono (fun a' w' h3 => ?_) h2
      have hst := h3.2.1 hflj
      refine ⟨fun _ => hst, ih (listed.setIfInBounds j true) a' w' (hcl.set hj) ?_ ?_ (ready_mono hr (Ne.symm hji)) ?_ ?_⟩
      · intro k ok hk hki hun hno
        refine hfree k ok hk hki ?_ hno
        by_cases hjk : j = k
        · subst hjk; exact hjun
        · rw [getD_set_ne true hjk] at hun; exact hun
      · intro k hk
        rcases hfl k hk with h | h | h | h
        · exact .inl (by
            by_cases hjk : j = k
            · subst hjk; rw [hjun] at h; cases h
            · rw [getD_set_ne true hjk]; exact h)
        · exact .inr (.inl h)
        · exact .inr (.inr (.inl h))
        · exact .inr (.inr (.inr h))
      · exact h3.1.imp (fun ⟨hw, hv⟩ => ⟨hw, fun u hu => hv u (htrans _ _ _ hst hu)⟩) id
      · rw [Array.setIfInBounds_comm _ _ hji]
        exact h3.2.2

/-- The worlds that the marked operations may come to. -/
structure Later (St : World → World → Prop) (u : World) where
  w : World
  h : St u w

/-- The kinds of operation that only read. -/
def rdKind : Op → Bool
  | .move _ | .assign _ | .pick .. | .nilCheck _ | .binOp .. | .unOp .. | .convert .. | .fieldAddr .. | .field .. | .indexAddr .. | .index .. | .slice .. | .load .. | .extract .. | .lookup .. => true
  | .call c => match c.callee with | .builtin .len => true | _ => false
  | _ => false

theorem run_v {s : Sem Value} {w w' : World} {n : Next} (h : (do pure (Next.value (← s)) : Sem Next).run P w = .ok n w') : ∃ v, n = .value v := by
  rw [Sem.run_bind] at h
  cases hs : s.run P w with
  | ok v u => rw [hs] at h; simp only [Result.andThen] at h; cases h; exact ⟨v, rfl⟩
  | halt x u => rw [hs] at h; simp only [Result.andThen] at h; cases h

theorem rd_value {o : Oper} (hk : rdKind o.op = true) {ρ : Operand → Value} {w w' : World} {n : Next} (h : (execOp ρ o).run P w = .ok n w') : ∃ v, n = .value v := by
  obtain ⟨dst, op, ty, pos, aft, g⟩ := o
  cases op <;> first | (simp [rdKind] at hk; done) | (exact run_v h) | skip
  case move x => simp only [execOp] at h; cases h; exact ⟨_, rfl⟩
  case assign x => simp only [execOp] at h; cases h; exact ⟨_, rfl⟩
  case pick c x y =>
    simp only [execOp, Sem.run_bind] at h
    cases hs : (asBool (ρ c)).run P w with
    | ok v u => rw [hs] at h; simp only [Result.andThen] at h; cases h; exact ⟨_, rfl⟩
    | halt x u => rw [hs] at h; simp only [Result.andThen] at h; cases h
  case nilCheck x =>
    simp only [execOp] at h
    have hrp : ∀ e : RuntimeError, e = .nilDeref → (runtimePanic e : Sem Next).run P w = .ok n w' → False := by
      intro e he hh
      subst he
      simp [runtimePanic, goPanic, Sem.run_bind, program, Sem.run, Result.andThen] at hh
    split at h
    · exact (hrp _ rfl h).elim
    · exact (hrp _ rfl h).elim
    · exact (hrp _ rfl h).elim
    · split at h
      · exact (hrp _ rfl h).elim
      · rw [Sem.run_bind] at h
        cases hs : (program).run P w with
        | ok v u =>
          rw [hs] at h
          simp only [Result.andThen] at h
          rw [Sem.run_bind] at h
          generalize (nilAhead _ _ _ _).run P u = r at h
          cases r with
          | ok b u2 =>
            simp only [Result.andThen] at h
            split at h
            · simp [unsupported, Sem.run, Result.andThen] at h
            · cases h; exact ⟨_, rfl⟩
          | halt x u2 => simp only [Result.andThen] at h; cases h
        | halt x u => rw [hs] at h; simp only [Result.andThen] at h; cases h
      · cases h; exact ⟨_, rfl⟩
    · cases h; exact ⟨_, rfl⟩
  case call c =>
    obtain ⟨callee, args, tys⟩ := c
    cases callee with
    | builtin b =>
      cases b <;> first | (simp [rdKind] at hk; done) | skip
      simp only [execOp, resolve, Sem.run_bind, Sem.run_pure, Result.andThen_ok, invoke, builtin] at h
      exact run_v (by rw [Sem.run_bind]; exact h)
    | _ => simp [rdKind] at hk

def Match (ops : Array Oper) : List Nat → List Oper → Prop
  | [], [] => True
  | i :: is, o :: os => ops[i]? = some o ∧ Match ops is os
  | _, _ => False
/-- The operations of one mark, and their numbers. -/
def pick (m : Nat) : List Nat → List Oper → List Oper
  | k :: ms, o :: os => if k = m then o :: pick m ms os else pick m ms os
  | _, _ => []
def pickI (m : Nat) : List Nat → Nat → List Nat
  | k :: ms, j => if k = m then j :: pickI m ms (j + 1) else pickI m ms (j + 1)
  | [], _ => []
theorem match_pick (m : Nat) : ∀ (ms : List Nat) (l : List Oper) (k : Nat), ms.length = l.length → (∀ j, l[j]? = ops[k + j]?) → Match ops (pickI m ms k) (pick m ms l)
  | [], [], _, _, _ => trivial
  | [], _ :: _, _, h, _ => by simp at h
  | _ :: _, [], _, h, _ => by simp at h
  | x :: ms, o :: l, k, h, hl => by
    have ih := match_pick m ms l (k + 1) (by simpa using h) (fun j => by have := hl (j + 1); simpa [Nat.add_assoc, Nat.add_comm 1 j] using this)
    have h0 : ops[k]? = some o := by simpa using (hl 0).symm
    unfold pickI pick
    by_cases hx : x = m
    · rw [if_pos hx, if_pos hx]; exact ⟨h0, ih⟩
    · rw [if_neg hx, if_neg hx]; exact ih

/-- The plan: the reads 'es' first, one by one; then 'late', each the only one that may come up. -/
def lateB (md : Region.Mode) (ops : Array Oper) : List Nat → Array Bool → Bool
  | j :: late, listed => decide (Region.ready md ops listed = [j]) && lateB md ops late (listed.setIfInBounds j true)
  | [], listed => (Region.ready md ops listed).isEmpty
def planB (md : Region.Mode) (ops : Array Oper) (fl : Nat → Bool) (late : List Nat) : List Nat → Array Bool → Bool
  | i :: es, listed =>
    (Region.ready md ops listed).contains i && Region.free md ops listed i && (match ops[i]? with | some o => rdKind o.op | none => false) &&
    (List.range ops.size).all (fun j => listed.getD j true || j == i || fl j || anc md ops ops.size j i) && planB md ops fl late es (listed.setIfInBounds i true)
  | [], listed => lateB md ops late listed

theorem late_U : ∀ (is : List Nat) (l : List Oper) (listed : Array Bool) (a : Act) (w : World), Match ops is l → (∀ i ∈ is, fl i = false) → lateB md ops is listed = true →
    wpList P ops Q l a w → wpX P md ops Q St fl is.length listed a w
  | [], [], listed, a, w, _, _, hB, h => ⟨by simpa [lateB] using hB, h⟩
  | [], _ :: _, _, _, _, hm, _, _, _ => hm.elim
  | _ :: _, [], _, _, _, hm, _, _, _ => hm.elim
  | i :: is, o :: l, listed, a, w, hm, hf, hB, h => by
    simp only [lateB, Bool.and_eq_true, decide_eq_true_eq] at hB
    refine ⟨fun h1 => (by rw [hB.1] at h1; cases h1), fun j hj => ?_⟩
    rw [hB.1] at hj
    have hji : j = i := by simpa using hj
    subst hji
    have hw : wpOp P ops Q j (wpList P ops Q l) a w := by unfold wpOp; simp only [hm.1]; exact h
    exact wpOp_mono (fun a' w' h' => ⟨fun hc => (by rw [hf j (by simp)] at hc; cases hc), late_U is l _ a' w' hm.2 (fun k hk => hf k (by simp [hk])) hB.2 h'⟩) hw

/-- The marked effects, one by one: behind each the world has moved as 'St' says. -/
def wpF (P : Program) (ops : Array Oper) (Q : Exit → Act → World → Prop) (St : World → World → Prop) (K : Act → World → Prop) : List Oper → Act → World → Prop
  | [], a, w => K a w
  | o :: r, a, w => if Region.wanted o (yielded ops a.tmps) then o.wp P a w (fun a' w' => St w w' ∧ wpF P ops Q St K r a' w') Q else St w w ∧ wpF P ops Q St K r (a.put o.dst undef) w

theorem late_F {us : List Nat} {u : List Oper} (hu : Match ops us u) (hfu : ∀ i ∈ us, fl i = false) : ∀ (is : List Nat) (l : List Oper) (listed : Array Bool) (a : Act) (w : World), Match ops is l → lateB md ops (is ++ us) listed = true →
    wpF P ops Q St (wpList P ops Q u) l a w → wpX P md ops Q St fl (is ++ us).length listed a w
  | [], [], listed, a, w, _, hB, h => late_U us u listed a w hu hfu hB h
  | [], _ :: _, _, _, _, hm, _, _ => hm.elim
  | _ :: _, [], _, _, _, hm, _, _ => hm.elim
  | i :: is, o :: l, listed, a, w, hm, hB, h => by
    simp only [List.cons_append, lateB, Bool.and_eq_true, decide_eq_true_eq] at hB
    refine ⟨fun h1 => (by rw [hB.1] at h1; cases h1), fun j hj => ?_⟩
    rw [hB.1] at hj
    have hji : j = i := by simpa using hj
    subst hji
    have hw : wpOp P ops Q j (fun a' w' => St w w' ∧ wpF P ops Q St (wpList P ops Q u) l a' w') a w := by
      unfold wpOp
      simp only [hm.1]
      unfold wpF at h
      split
      · rename_i hc; rw [if_pos hc] at h; exact .inl h
      · rename_i hc; rw [if_neg hc] at h; exact h
    exact wpOp_mono (fun a' w' h' => ⟨fun _ => h'.1, late_F hu hfu is l _ a' w' hm.2 hB.2 h'.2⟩) hw

theorem early_X (hrefl : ∀ w, St w w) (htrans : ∀ a b c, St a b → St b c → St a c) (hsel : ∀ (j : Nat) (o : Oper) cs b, ops[j]? = some o → o.op ≠ .select cs b)
    (hQ : ∀ c a (d : Tmp) v w, Q (.panic c) (a.put (some d) v) w → Q (.panic c) a w) {late : List Nat} {Kq : Act → Prop} {w : World}
    (hK : ∀ listed a, lateB md ops late listed = true → Kq a → wpX P md ops Q St fl late.length listed a w) :
    ∀ (es : List Nat) (l : List Oper) (listed : Array Bool) (a : Act), Match ops es l → ClosedAt md ops listed → planB md ops fl late es listed = true →
      wpQuiet P ops (fun w' => ∃ x : Later St w, w' = x.w) Kq l a → wpX P md ops Q St fl (es.length + late.length) listed a w
  | [], [], listed, a, _, _, hB, h => by rw [List.length_nil, Nat.zero_add]; exact hK listed a hB h
  | [], _ :: _, _, _, hm, _, _, _ => hm.elim
  | _ :: _, [], _, _, hm, _, _, _ => hm.elim
  | i :: es, o :: l, listed, a, hm, hc, hB, h => by
    simp only [planB, Bool.and_eq_true] at hB
    obtain ⟨⟨⟨⟨hr, hf⟩, hk⟩, ha⟩, hB'⟩ := hB
    have hr' : i ∈ Region.ready md ops listed := by simpa using hr
    have hst : qOp P ops (fun w' => ∃ x : Later St w, w' = x.w) i (wpQuiet P ops (fun w' => ∃ x : Later St w, w' = x.w) Kq l) a := by unfold qOp; simp only [hm.1]; exact h
    obtain ⟨v, hy, hn⟩ := yieldsIn_of_qOp hm.1 hst
    have hk' : rdKind o.op = true := by simpa [hm.1] using hk
    have hy' : YieldsIf P ops (St w) o v a := by
      refine hy.imp (fun ⟨hw, hv⟩ => ⟨hw, fun u hu => ?_⟩) id
      have h3 := hv u ⟨⟨u, hu⟩, rfl⟩
      unfold Oper.quietAt at h3
      cases hrun : (execOp a.eval o).run P u with
      | ok n w' =>
        obtain ⟨x, rfl⟩ := rd_value hk' hrun
        rw [hrun] at h3
        simp only [Oper.quietUpon] at h3
        rw [h3.1, h3.2]
      | halt x w' => rw [hrun] at h3; simp only [Oper.quietUpon] at h3
    rw [List.length_cons, show es.length + 1 + late.length = (es.length + late.length) + 1 by omega]
    refine wpX_first (n := ops.size) hrefl htrans hm.1 hsel (fun c a w hp => by
      cases hd : o.dst with
      | none => rw [hd] at hp; exact hp
      | some d => rw [hd] at hp; exact hQ c a d _ w hp) _ listed a w hc (Region.free_spec hm.1 hf) ?_ hr' hy'
      (early_X hrefl htrans hsel hQ hK es l _ _ hm.2 (hc.set hr') hB' hn)
    intro j hj
    have := List.all_eq_true.1 ha j (List.mem_range.2 hj)
    simp only [Bool.or_eq_true, beq_iff_eq] at this
    rcases this with ((h1 | h1) | h1) | h1
    · exact .inl h1
    · exact .inr (.inl h1)
    · exact .inr (.inr (.inl h1))
    · exact .inr (.inr (.inr h1))

def flOf (ms : List Nat) (j : Nat) : Bool := ms.getD j 0 != 1
def planOK (l : List Oper) (ms : List Nat) : Bool :=
  Region.noSelect l.toArray && decide (ms.length = l.length) && decide ((pickI 0 ms 0).length + (pickI 2 ms 0 ++ pickI 1 ms 0).length = l.length) &&
  (pickI 1 ms 0).all (fun i => !flOf ms i) && planB .any l.toArray (flOf ms) (pickI 2 ms 0 ++ pickI 1 ms 0) (pickI 0 ms 0) (Array.replicate l.toArray.size false)

/-- A REGION THAT DRAWS ITS ORDER, BY A PLAN: mark 0: a read, taken first; 2: an effect behind which 'St' is shown; 1: what is forced behind all that. -/
theorem region_plan {id : Nat} {a : Act} {w : World} {l : List Oper} (hrefl : ∀ w, St w w) (htrans : ∀ a b c, St a b → St b c → St a c) (ms : List Nat) (hm : P.follows .mixedOrders = true) (hB : planOK l ms = true)
    (hQ : ∀ c a (d : Tmp) v w, Q (.panic c) (a.put (some d) v) w → Q (.panic c) a w)
    (h : wpQuiet P l.toArray (fun w' => ∃ x : Later St w.drew, w' = x.w) (fun a' => wpF P l.toArray Q St (wpList P l.toArray Q (pick 1 ms l)) (pick 2 ms l) a' w.drew) (pick 0 ms l) a) :
    (Code.region id l.toArray true).wp P Q a w := by
  simp only [planOK, Bool.and_eq_true, decide_eq_true_eq] at hB
  obtain ⟨⟨⟨⟨hsel, hlen⟩, hsum⟩, hfu⟩, hpl⟩ := hB
  have hat : ∀ j, l[j]? = l.toArray[0 + j]? := fun j => by simp
  refine wp_region_any hm (wpAny_of_wpX (St := St) (fl := flOf ms) _ _ _ _ ?_)
  have hclosed : ClosedAt .any l.toArray (Array.replicate l.toArray.size false) := fun j oj _ hl => by rw [getD_replicate_false] at hl; cases hl
  have H := early_X (md := .any) (fl := flOf ms) (Q := Q) (Kq := fun a' => wpF P l.toArray Q St (wpList P l.toArray Q (pick 1 ms l)) (pick 2 ms l) a' w.drew) hrefl htrans (Region.noSelect_spec hsel) hQ
    (fun listed a' hB' h' => late_F (match_pick 1 ms l 0 hlen hat) (fun i hi => by
      have := List.all_eq_true.1 hfu i hi
      simpa using this) _ _ listed a' w.drew (match_pick 2 ms l 0 hlen hat) hB' h') _ _ _ a (match_pick 0 ms l 0 hlen hat) hclosed hpl h
  rw [hsum] at H
  simpa using H

abbrev ExtR : World → World → Prop := fun u v => Below u.heap.size u v
theorem later_blk {w : World} {b : Nat} {A : Array Value} {t : TypeId} {fr : Nat × Nat} (h : w.heap[b]? = some (.cells A t fr)) (x : Later (fun u v => Below u.heap.size u v) w.drew) : x.w.heap[b]? = some (.cells A t fr) := by
  have hlt : b < w.heap.size := by
    rcases Nat.lt_or_ge b w.heap.size with h' | h'
    · exact h'
    · rw [Array.getElem?_eq_none h'] at h; cases h
  rw [x.h.block b hlt]; exact h
theorem ext_refl (w : World) : Below w.heap.size w w := Below.refl _ _
theorem ext_trans (a b c : World) (h : Below a.heap.size a b) (k : Below b.heap.size b c) : Below a.heap.size a c := h.trans (k.mono h.size)
instance {w : World} : Nonempty (Later (fun u v => Below u.heap.size u v) w) := ⟨⟨w, Below.refl _ _⟩⟩
/-- The same where the marked effects but make memory. -/
theorem region_ext {id : Nat} {a : Act} {w : World} {l : List Oper} (ms : List Nat) (hm : P.follows .mixedOrders = true) (hB : planOK l ms = true)
    (hQ : ∀ c a (d : Tmp) v w, Q (.panic c) (a.put (some d) v) w → Q (.panic c) a w)
    (h : wpQuiet P l.toArray (fun w' => ∃ x : Later (fun u v => Below u.heap.size u v) w.drew, w' = x.w)
      (fun a' => wpF P l.toArray Q (fun u v => Below u.heap.size u v) (wpList P l.toArray Q (pick 1 ms l)) (pick 2 ms l) a' w.drew) (pick 0 ms l) a) :
    (Code.region id l.toArray true).wp P Q a w :=
  region_plan ext_refl ext_trans ms hm hB hQ h
end
end Go.Proofs.Ytkdakmddlkgjkaa
