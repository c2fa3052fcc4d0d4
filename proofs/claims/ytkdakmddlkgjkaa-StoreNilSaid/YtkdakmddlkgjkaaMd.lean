import Derived.Test.YtkdakmddlkgjkaaCm
import Derived.Test.YtkdakmddlkgjkaaOrd
open Go.RowKit Go.Lib
namespace Go.Proofs.Ytkdakmddlkgjkaa
set_option maxRecDepth 100000
open Sha
/-! A store in the midst of a method: the store, its disk, and blocks that the method made. -/
structure Mid (w0 : World) (F0 : Nat → Prop) (p b : Nat) (k : Kp) (odd : Bool) (D : Ds) (F : Nat → Prop) (X : List (Nat × Array Value × TypeId)) (w : World) : Prop where
  st : StAt w p b k odd none
  d : IsDisk w b D F
  u : Upd (fun i => F0 i ∨ i = p) w0 w
  f : ∀ i, F i → F0 i ∨ w0.heap.size ≤ i
  np : ¬ F p
  xs : ∀ e ∈ X, w.heap[e.1]? = some (.cells e.2.1 e.2.2 (0, 0)) ∧ ¬ F e.1 ∧ e.1 ≠ p ∧ w0.heap.size ≤ e.1
section
variable {w0 w w' : World} {F0 F : Nat → Prop} {p b : Nat} {k : Kp} {odd : Bool} {D D2 : Ds} {X : List (Nat × Array Value × TypeId)}
theorem Mid.ext (h : Mid w0 F0 p b k odd D F X w) (hb : Below w.heap.size w w') : Mid w0 F0 p b k odd D F X w' :=
  ⟨h.st.below hb, h.d.ext hb, h.u.ext hb, h.f, h.np, fun e he => ⟨blk_below (h.xs e he).1 hb (blk_lt (h.xs e he).1), (h.xs e he).2⟩⟩
theorem Mid.drew (h : Mid w0 F0 p b k odd D F X w) : Mid w0 F0 p b k odd D F X w.drew := h.ext (Below.refl _ _).drew
theorem Mid.drewN (h : Mid w0 F0 p b k odd D F X w) (n : Nat) : Mid w0 F0 p b k odd D F X (w.drewN n) := h.ext (Go.Proofs.Ytkdakmddlkgjkaa.Below.drewN (Below.refl _ _) n)
theorem Mid.new (h : Mid w0 F0 p b k odd D F X w) (A : Array Value) (t : TypeId) : Mid w0 F0 p b k odd D F ((w.heap.size, A, t) :: X) (w.alloc (.cells A t (0, 0))) := by
  have hb : Below w.heap.size w (w.alloc (.cells A t (0, 0))) := (Below.refl _ _).alloc (Nat.le_refl _) _
  have h1 := h.ext hb
  refine ⟨h1.st, h1.d, h1.u, h1.f, h1.np, fun e he => ?_⟩
  rcases List.mem_cons.1 he with rfl | he
  · exact ⟨blk_new _ _ _ _ _ rfl, fun hf => by have := h.d.lt _ hf; omega, fun hp => by have h1 := blk_lt h.st.blk; have h2 : w.heap.size = p := hp; omega, h.u.size⟩
  · exact h1.xs e he
theorem Mid.app {F2 : Nat → Prop} (h : Mid w0 F0 p b k odd D F X w) (hd : IsDisk w' b D2 F2) (hu : Upd F w w') (hf : ∀ i, F2 i → F i ∨ w.heap.size ≤ i) : Mid w0 F0 p b k odd D2 F2 X w' := by
  have hn : ∀ i, i < w.heap.size → ¬ F i → ¬ F2 i := fun i hi h1 h2 => (hf i h2).elim h1 (fun h3 => by omega)
  refine ⟨h.st.keep (hu.block p (blk_lt h.st.blk) h.np) (fun q k' e => by cases e), hd, ?_, fun i hi => ?_, hn p (blk_lt h.st.blk) h.np, fun e he => ?_⟩
  · refine ⟨by rw [hu.os, h.u.os], by rw [hu.tape, h.u.tape], by rw [hu.output, h.u.output], Nat.le_trans h.u.size hu.size, fun i hi hm => ?_⟩
    rw [hu.block i (Nat.lt_of_lt_of_le hi h.u.size) (fun hf2 => (h.f i hf2).elim (fun h1 => hm (.inl h1)) (fun h1 => by omega)), h.u.block i hi hm]
  · rcases hf i hi with h1 | h1
    · exact h.f i h1
    · exact .inr (Nat.le_trans h.u.size h1)
  · have h1 := h.xs e he
    exact ⟨(hu.block e.1 (blk_lt h1.1) h1.2.1).trans h1.1, hn e.1 (blk_lt h1.1) h1.2.1, h1.2.2⟩
/-- A store into a block that is told no more. -/
theorem Mid.put {a : Addr} (h : Mid w0 F0 p b k odd D F X w) (v : Value) (hN : ¬ F a.block ∧ a.block ≠ p ∧ w0.heap.size ≤ a.block) (hX : ∀ e ∈ X, e.1 ≠ a.block) : Mid w0 F0 p b k odd D F X (w.setCell a v) := by
  refine ⟨⟨?_, fun q k' e => by cases e⟩, ?_, h.u.setNew hN.2.2 v, h.f, h.np, fun e he => ⟨blk_set_ne (h.xs e he).1 a v (hX e he), (h.xs e he).2⟩⟩
  · exact blk_set_ne h.st.blk a v (fun e => hN.2.1 e.symm)
  · exact h.d.keep (by simp [World.setCell]) (fun i hi => Below.heap_setCell _ _ _ _ (fun e => hN.1 (e ▸ hi)))
theorem Mid.tail {e : Nat × Array Value × TypeId} (h : Mid w0 F0 p b k odd D F (e :: X) w) : Mid w0 F0 p b k odd D F X w :=
  ⟨h.st, h.d, h.u, h.f, h.np, fun x hx => h.xs x (List.mem_cons_of_mem _ hx)⟩
theorem wpX_world {P : Program} {md : Region.Mode} {ops : Array Oper} {Q : Exit → Act → World → Prop} {St : World → World → Prop} {fl : Nat → Bool} {f : Nat} {listed : Array Bool} {a : Act} {w : World} (G : World → Prop) (hG : G w)
    (h : ∀ w', G w' → wpX P md ops Q St fl f listed a w') : wpX P md ops Q St fl f listed a w := h w hG
/-- what is left of it when the store itself is written -/
structure Mod (w0 : World) (F0 : Nat → Prop) (p b : Nat) (D : Ds) (F : Nat → Prop) (w : World) : Prop where
  d : IsDisk w b D F
  u : Upd (fun i => F0 i ∨ i = p) w0 w
  f : ∀ i, F i → F0 i ∨ w0.heap.size ≤ i
  np : ¬ F p
theorem Mid.mod (h : Mid w0 F0 p b k odd D F X w) : Mod w0 F0 p b D F w := ⟨h.d, h.u, h.f, h.np⟩
theorem Mod.set (h : Mod w0 F0 p b D F w) (i : Nat) (v : Value) : Mod w0 F0 p b D F (w.setCell ⟨p, i, none⟩ v) :=
  ⟨h.d.keep (by simp [World.setCell]) (fun j hj => Below.heap_setCell _ _ _ _ (fun e => h.np (by have e2 : j = p := e; rw [← e2]; exact hj))), h.u.setCell (.inr rfl) v, h.f, h.np⟩
theorem Mod.out {w : World} (h : Mod w0 F0 p b D F w) : ∃ F', IsDisk w b D F' ∧ Upd (fun i => F0 i ∨ i = p) w0 w ∧ ∀ i, F' i → F0 i ∨ w0.heap.size ≤ i := ⟨F, h.d, h.u, h.f⟩
theorem StAt.new {k2 : Kp} (h : StAt w p b k odd none) : StAt ((((w.setCell ⟨p, 0, none⟩ (.int .i64 k2.sl)).setCell ⟨p, 1, none⟩ (.string ⟨k2.tx.toArray⟩)).setCell ⟨p, 2, none⟩ (.string ⟨k2.sm.toArray⟩)).setCell ⟨p, 4, none⟩ (.bool false)) p b k2 false none := by
  refine ⟨?_, fun q k' e => by cases e⟩
  rw [blk_set (blk_set (blk_set (blk_set h.blk 0 (.int .i64 k2.sl)) 1 (.string ⟨k2.tx.toArray⟩)) 2 (.string ⟨k2.sm.toArray⟩)) 4 (.bool false)]
  rfl
end
end Go.Proofs.Ytkdakmddlkgjkaa
