import Derived.Maps.OwnSet
import Derived.Maps.OwnOps
import Derived.Maps.Views
import Derived.Test.YtkdakmddlkgjkaaBn
import Derived.Test.YtkdakmddlkgjkaaPl
open Go.RowKit Go.Lib
namespace Go.Proofs.Ytkdakmddlkgjkaa
set_option maxRecDepth 100000
/-! A map from int to int, as a function. -/
def ik (i : Nat) : Lit := .int .i64 (i : Int)
/-- Block m is a map of at most n entries: what it has at i < 2^62 is f i. -/
def MapIs (w : World) (m n : Nat) (f : Nat → Option Nat) : Prop :=
  ∃ D : DataW Unit, w.ownsMap Try.prog 3 (plainElem Try.prog 3) m n D ∧ Maps.IsMap D ∧ ∀ i : Nat, Maps.has D (ik i) = (f i).isSome ∧ ∀ k, f i = some k → k < 4611686018427387904 ∧ ∀ z, D.atKey (ik i) z = .lit (ik k)
theorem law_int : Maps.Keyed Try.prog 3 := Maps.int_keyed Try.underlying3
theorem zero_int (w : World) : (zeroValue 3).run Try.prog w = .ok (.int .i64 0) w := by kernel_rfl
theorem wf_ik (i : Nat) (h : i < 4611686018427387904) : (Lit.int .i64 (i : Int)).wf = true := WalkArith.wf_i64 (by omega)
theorem key_ik (i : Nat) (h : i < 4611686018427387904) : keyOf Try.prog 3 (.int .i64 (i : Int)) = some (ik i) := Maps.keyOf_int_mk Try.underlying3 (wf_ik i h)
theorem ik_ne {i j : Nat} (h : i ≠ j) : ik i ≠ ik j := by
  intro e; simp [ik] at e; omega
theorem isK (i : Nat) : WideAt.IsKeyLit (ik i) := by simp [ik, WideAt.IsKeyLit]
section
variable {w w' : World} {m n : Nat} {f : Nat → Option Nat}
theorem MapIs.mono (h : MapIs w m n f) {n' : Nat} (hn : n ≤ n') : MapIs w m n' f := by
  obtain ⟨D, h1, h2⟩ := h
  exact ⟨D, h1.mono hn, h2⟩
theorem MapIs.lt (h : MapIs w m n f) : m < w.heap.size := by
  obtain ⟨D, h1, h2⟩ := h
  exact h1.lt
theorem MapIs.keep (h : MapIs w m n f) (hk : w'.heap[m]? = w.heap[m]?) : MapIs w' m n f := by
  obtain ⟨D, ⟨es, clock, hb, r⟩, h2⟩ := h
  exact ⟨D, ⟨es, clock, by rw [hk]; exact hb, r⟩, h2⟩
theorem MapIs.obj (h : MapIs w m n f) : ∃ es clock, w.heap[m]? = some (.map es clock) := by
  obtain ⟨D, ⟨es, clock, hb, r⟩, h2⟩ := h
  exact ⟨es, clock, hb⟩
theorem MapIs.congr (h : MapIs w m n f) {g : Nat → Option Nat} (hg : ∀ i, f i = g i) : MapIs w m n g := by
  rw [show g = f from funext fun i => (hg i).symm]; exact h
theorem MapIs.look (h : MapIs w m n f) (i : Nat) (hi : i < 4611686018427387904) :
    (Instr.lookup 104 (.map (some m)) (.int .i64 (i : Int)) true).run Try.prog w = .ok (.tuple #[.int .i64 (((f i).getD 0 : Nat) : Int), .bool (f i).isSome]) w := by
  obtain ⟨D, h1, h2, h3⟩ := h
  obtain ⟨v, ps, hr, hv⟩ := h1.look_ok (zd := .lit (ik 0)) (zp := []) law_int Try.underlying104 (zero_int w) (plainElem_int Try.underlying3 (wf_ik 0 (by decide))) (key_ik i hi)
  obtain ⟨g1, g2⟩ := h3 i
  rw [g1] at hr
  obtain ⟨a, rfl, hz, hw⟩ := plainElem_int_inv Try.underlying3 hv
  have e : a = (((f i).getD 0 : Nat) : Int) := by
    cases hf : f i with
    | none =>
      have hn : Maps.has D (ik i) = false := by rw [g1, hf]; rfl
      rw [Maps.atKey_of_not_has hn] at hz
      simp [ik] at hz
      simpa using hz.1.symm
    | some k =>
      rw [(g2 k hf).2] at hz
      simp [ik] at hz
      simpa using hz.1.symm
  rw [hr, e]
theorem turned_grown {w w' : World} {b : Nat} (h : w.mapTurned w' b) : w.grownBy w' (some b) ∧ w'.heap.size = w.heap.size := by
  obtain ⟨es, clock, es', clock', hb, rfl⟩ := h
  exact ⟨⟨rfl, rfl, rfl, by simp [ChangeMaps.setBlock], fun i _ hi => ChangeMaps.heap_setBlock_other hb _ (fun e => hi (by rw [e]))⟩, by simp [ChangeMaps.setBlock]⟩
theorem MapIs.store (h : MapIs w m n f) (hn : n < 4611686018427387904) (i k : Nat) (hi : i < 4611686018427387904) (hk : k < 4611686018427387904) :
    ∃ w', (Instr.mapUpdate 104 (.map (some m)) (.int .i64 (i : Int)) (.int .i64 (k : Int))).run Try.prog w = .ok () w' ∧ MapIs w' m (n + 1) (updF f i (some k)) ∧ w.grownBy w' (some m) ∧ w'.heap.size = w.heap.size := by
  obtain ⟨D, h1, h2, h3⟩ := h
  obtain ⟨w', hr, g1, g2⟩ := h1.store law_int Try.underlying104 (show n < maxLen by unfold maxLen; omega) (key_ik i hi) (plainElem_int (H := Unit) Try.underlying3 (wf_ik k hk))
  refine ⟨w', hr, ⟨_, g1, Maps.IsMap.put h2 _ _, fun j => ?_⟩, (turned_grown g2).1, (turned_grown g2).2⟩
  by_cases hj : j = i
  · subst hj
    refine ⟨by rw [Maps.has_put_same h2 (isK j)]; simp [updF], fun k' hk' => ?_⟩
    simp [updF] at hk'
    subst hk'
    exact ⟨hk, fun z => Maps.atKey_put_same h2 (isK j) _ _⟩
  · have hne : ik j ≠ ik i := ik_ne hj
    rw [Maps.has_put_other hne]
    simp only [updF, if_neg hj]
    refine ⟨(h3 j).1, fun k' hk' => ⟨((h3 j).2 k' hk').1, fun z => ?_⟩⟩
    rw [Maps.atKey_put_other hne]
    exact ((h3 j).2 k' hk').2 z
theorem MapIs.drop (h : MapIs w m n f) (i : Nat) (hi : i < 4611686018427387904) (ty : TypeId) :
    ∃ w', (Builtin.delete_ #[104, 3] ty #[.map (some m), .int .i64 (i : Int)]).run Try.prog w = .ok (.tuple #[]) w' ∧ MapIs w' m n (updF f i none) ∧ w.grownBy w' (some m) ∧ w'.heap.size = w.heap.size := by
  obtain ⟨D, h1, h2, h3⟩ := h
  obtain ⟨w', hr, g1, g2⟩ := h1.drop law_int Try.underlying104 (key_ik i hi) ty
  refine ⟨w', hr, ⟨_, g1, Maps.IsMap.del h2 _, fun j => ?_⟩, (turned_grown g2).1, (turned_grown g2).2⟩
  by_cases hj : j = i
  · subst hj
    refine ⟨by rw [Maps.has_del_same]; simp [updF], fun k' hk' => ?_⟩
    simp [updF] at hk'
  · have hne : ik j ≠ ik i := ik_ne hj
    rw [Maps.has_del_other hne]
    simp only [updF, if_neg hj]
    refine ⟨(h3 j).1, fun k' hk' => ⟨((h3 j).2 k' hk').1, fun z => ?_⟩⟩
    rw [Maps.atKey_del_other hne]
    exact ((h3 j).2 k' hk').2 z
theorem MapIs.made (w : World) : MapIs (w.alloc (.map #[] 0)) w.heap.size 0 fun _ => none :=
  ⟨.map [], World.ownsMap_made _ _ _ _, Maps.isMap_empty, fun i => ⟨rfl, fun k hk => by cases hk⟩⟩
end
section
variable {ops : Array Oper} {Q : Exit → Act → World → Prop} {dst : Option Tmp} {ty : TypeId} {pos : String} {aft : Array Edge} {a : Act} {w : World} {K : Act → World → Prop} {m n : Nat} {f : Nat → Option Nat}
theorem W_mapstore (x y z : Operand) (i k : Nat) (h : MapIs w m n f)
    (hp : a.eval x = .map (some m) ∧ a.eval y = .int .i64 (i : Int) ∧ a.eval z = .int .i64 (k : Int) ∧ n < 4611686018427387904 ∧ i < 4611686018427387904 ∧ k < 4611686018427387904)
    (hK : ∀ w', MapIs w' m (n + 1) (updF f i (some k)) → w.grownBy w' (some m) → w'.heap.size = w.heap.size → K (a.put dst undef) w') :
    Oper.wp Try.prog ⟨dst, .mapUpdate 104 x y z, ty, pos, aft, none⟩ a w K Q := by
  obtain ⟨w', hr, h2, h3, h4⟩ := h.store hp.2.2.2.1 i k hp.2.2.2.2.1 hp.2.2.2.2.2
  unfold Oper.wp execOp
  simp [hp.1, hp.2.1, hp.2.2.1, hr, Result.andThen]
  exact hK w' h2 h3 h4
theorem W_mapdrop (x y : Operand) (i : Nat) (h : MapIs w m n f)
    (hp : a.eval x = .map (some m) ∧ a.eval y = .int .i64 (i : Int) ∧ i < 4611686018427387904)
    (hK : ∀ w', MapIs w' m n (updF f i none) → w.grownBy w' (some m) → w'.heap.size = w.heap.size → K (a.put dst (.tuple #[])) w') :
    Oper.wp Try.prog ⟨dst, .call { callee := .builtin .delete, args := #[x, y], argTypes := #[104, 3] }, ty, pos, aft, none⟩ a w K Q := by
  obtain ⟨w', hr, h2, h3, h4⟩ := h.drop i hp.2.2 ty
  unfold Oper.wp execOp
  simp only [resolve, invoke, builtin, Sem.run_bind, Sem.run_pure, Result.andThen_ok, List.map_toArray, List.map_cons, List.map_nil, hp.1, hp.2.1, hr]
  exact hK w' h2 h3 h4
end
end Go.Proofs.Ytkdakmddlkgjkaa
