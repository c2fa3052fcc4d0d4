import Derived.WalkKit
import Derived.WalkLawsBesides
import Derived.Lib.Hide
import Derived.Deep.QuietTactic
import Derived.StillTailTactics
namespace Go.Proofs.Ytkdakmddlkgjkaa
set_option maxRecDepth 100000
open Go.RowKit
/-- A fact that neither simp nor 'contradiction' looks into. -/
structure Hd (p : Prop) : Prop where
  out : p
section
variable {w : World} {b : Nat} {A : Array Value} {t : TypeId} {fr : Nat × Nat}
theorem blk_cell (h : w.heap[b]? = some (.cells A t fr)) (i : Nat) : w.cell? ⟨b, i, none⟩ = A[i]? := by simp [World.cell?, h]
theorem blk_free (h : w.heap[b]? = some (.cells A t (0, 0))) (i : Nat) : w.frozen? ⟨b, i, none⟩ = false := by simp [World.frozen?, h]
theorem blk_lt (h : w.heap[b]? = some (.cells A t fr)) : b < w.heap.size := by
  rcases Nat.lt_or_ge b w.heap.size with h' | h'
  · exact h'
  · rw [Array.getElem?_eq_none h'] at h; cases h
theorem blk_set (h : w.heap[b]? = some (.cells A t fr)) (i : Nat) (v : Value) : (w.setCell ⟨b, i, none⟩ v).heap[b]? = some (.cells (A.setIfInBounds i v) t fr) := by
  simp [World.setCell, Array.getElem?_modify, h]
theorem blk_set_ne (h : w.heap[b]? = some (.cells A t fr)) (p : Addr) (v : Value) (hp : b ≠ p.block) : (w.setCell p v).heap[b]? = some (.cells A t fr) := by
  rw [Below.heap_setCell _ _ _ _ hp]; exact h
theorem blk_alloc (h : w.heap[b]? = some (.cells A t fr)) (o : Obj) : (w.alloc o).heap[b]? = some (.cells A t fr) := by
  rw [Below.heap_alloc _ _ _ (blk_lt h)]; exact h
theorem blk_drewN (h : w.heap[b]? = some (.cells A t fr)) (n : Nat) : (w.drewN n).heap[b]? = some (.cells A t fr) := h
theorem blk_drew (h : w.heap[b]? = some (.cells A t fr)) : (w.drew).heap[b]? = some (.cells A t fr) := h
theorem blk_row_ne (h : w.heap[b]? = some (.cells A t fr)) (g : Nat) (cs : Array Value) (hg : b ≠ g) : (w.setRow g cs).heap[b]? = some (.cells A t fr) := by
  rw [setRow_other w g b cs hg]; exact h
theorem blk_below {B : Nat} {w' : World} (h : w.heap[b]? = some (.cells A t fr)) (hb : Below B w w') (hB : b < B) : w'.heap[b]? = some (.cells A t fr) := by
  rw [hb.block b hB]; exact h
end
theorem sz_alloc (w : World) (o : Obj) : (w.alloc o).heap.size = w.heap.size + 1 := Array.size_push _
theorem blk_new (w : World) (A : Array Value) (t : TypeId) (fr : Nat × Nat) (N : Nat) (h : w.heap.size = N) : (w.alloc (.cells A t fr)).heap[N]? = some (.cells A t fr) := by
  subst h; exact Array.getElem?_push_size
theorem region_tail {P : Program} {id : Nat} {Q : Exit → Act → World → Prop} {a : Act} {w : World} {l : List Oper} (n : Nat) (hm : P.follows .mixedOrders = true) (hB : Region.lexTailB .any l.toArray n = true)
    (h : wpStill P l.toArray w.drew (fun a' => wpList P l.toArray Q (l.drop n) a' w.drew) (l.take n) a) : (Code.region id l.toArray true).wp P Q a w :=
  wp_region_still_tail n hm hB h
theorem setRow_below {B : Nat} {a w : World} (h : Below B a w) {g : Nat} (hg : B ≤ g) (cs : Array Value) : Below B a (w.setRow g cs) :=
  h.trans ⟨rfl, rfl, rfl, by simp [World.setRow], fun k hk => setRow_other w g k cs (by omega)⟩
section
variable {P : Program} {ops : Array Oper} {Q : Exit → Act → World → Prop} {rest : List Oper} {dst : Option Tmp} {ty : TypeId} {pos : String} {aft : Array Edge} {a : Act} {w : World}
/-- For 'with_reducible refine': the operation is written out, so a wrong one fails at once. -/
theorem L_build (t : TypeId) (parts : Array (Nat × Operand)) (cells : Array Value) (hf : P.built t (parts.map fun (i, x) => (i, a.eval x)).toList = some cells)
    (h : wpList P ops Q rest (a.put dst (.agg cells)) w) : wpList P ops Q (⟨dst, .build t parts, ty, pos, aft, none⟩ :: rest) a w :=
  wpList_build rfl t parts rfl (by rw [hf]; rfl) (by rw [hf]; exact h)
theorem L_store_row (t : TypeId) (x y : Operand) (g : Nat) (cells : Array Value) (t' : TypeId) (old : Array Value)
    (hp : a.eval x = .pointer (some ⟨g, 0, none⟩) ∧ a.eval y = .agg cells ∧ w.heap[g]? = some (.cells old t' (0, 0)) ∧ (P.info? t).map (·.size) = some cells.size ∧ old.size = cells.size ∧ cells.all (·.oneCell') = true)
    (h : wpList P ops Q rest (a.put dst undef) (w.setRow g cells)) : wpList P ops Q (⟨dst, .store t x y, ty, pos, aft, none⟩ :: rest) a w :=
  wpList_store_row rfl t x y rfl g cells hp.1 hp.2.1 t' old hp.2.2.1 hp.2.2.2.1 hp.2.2.2.2.1 hp.2.2.2.2.2 h
def aggD : TypeDesc → Bool
  | .struct _ | .array _ _ => true
  | _ => false
theorem L_load_row (t : TypeId) (x : Operand) (g : Nat) (t' : TypeId) (cs : Array Value) (fr : Nat × Nat)
    (hp : a.eval x = .pointer (some ⟨g, 0, none⟩) ∧ w.heap[g]? = some (.cells cs t' fr) ∧ (P.underlying t).map aggD = some true ∧ (P.info? t).map (·.size) = some cs.size)
    (h : wpList P ops Q rest (a.put dst (.agg cs)) w) : wpList P ops Q (⟨dst, .load t x, ty, pos, aft, none⟩ :: rest) a w := by
  obtain ⟨d, hd, hagg⟩ := Option.map_eq_some_iff.1 hp.2.2.1
  exact wpList_load_row rfl t x rfl g hp.1 t' cs fr d hp.2.1 hd (by cases d <;> first | rfl | (simp [aggD] at hagg)) hp.2.2.2 h
end
/-- The world, known by what holds of it alone. -/
theorem wp_world {P : Program} {c : Code} {Q : Exit → Act → World → Prop} {a : Act} {w : World} (F : World → Prop) (hF : F w) (h : ∀ w', F w' → c.wp P Q a w') : c.wp P Q a w := h w hF
theorem wpList_world {P : Program} {l : List Oper} {O : Array Oper} {Q : Exit → Act → World → Prop} {a : Act} {w : World} (F : World → Prop) (hF : F w) (h : ∀ w', F w' → wpList P O Q l a w') : wpList P O Q l a w := h w hF
theorem sz_setRow (w : World) (g : Nat) (cs : Array Value) : (w.setRow g cs).heap.size = w.heap.size := by simp [World.setRow]
theorem Below.drewN {B : Nat} {a w : World} (h : Below B a w) (n : Nat) : Below B a (w.drewN n) := ⟨h.os, h.tape, h.output, h.size, h.block⟩
end Go.Proofs.Ytkdakmddlkgjkaa
