import Derived.Test.YtkdakmddlkgjkaaMd
open Go.RowKit Go.Lib
namespace Go.Proofs.Ytkdakmddlkgjkaa
set_option maxRecDepth 100000
open Sha
/-! Plain: store.Prepare. -/
def oth (k : Kp) : Nat := if k.sl = 0 then 1 else 0
def sprep (D : Ds) (k : Kp) (tx : List UInt8) : Nat × Ds × Option Kp :=
  if (swrite D (oth k) tx).1 ≠ 0 then ((swrite D (oth k) tx).1, (swrite D (oth k) tx).2, none) else
  if (app (swrite D (oth k) tx).2 (k.ent 1)).1 ≠ 0 then ((app (swrite D (oth k) tx).2 (k.ent 1)).1, (app (swrite D (oth k) tx).2 (k.ent 1)).2.2, none) else
  (0, (app (swrite D (oth k) tx).2 (k.ent 1)).2.2, some ⟨oth k, tx, sha tx⟩)
theorem swrite_ops {D : Ds} (h : D.ok) (slot : Nat) (s : List UInt8) : (swrite D slot s).2.ops ≤ D.ops + 300 ∧ (swrite D slot s).2.gh ≤ D.gh + 300 ∧ (swrite D slot s).2.L.length = D.L.length := by
  unfold swrite
  split
  · exact ⟨Nat.le_add_right _ _, Nat.le_add_right _ _, rfl⟩
  · rename_i hb
    have hh := h.hi
    have hc : cnt s.length ≤ 252 := by unfold cnt; unfold bks at hb; omega
    have h1 := swl_len D (8 + slot * bks D) s (cnt s.length)
    have h2 := sync_len (swl D (8 + slot * bks D) s (cnt s.length)).2
    split
    · exact ⟨by omega, by omega, h1.1⟩
    · exact ⟨by omega, by omega, by rw [h2.1, h1.1]⟩
theorem swrite_app_ops {D : Ds} (h : D.ok) (slot : Nat) (s : List UInt8) (e : En) : (app (swrite D slot s).2 e).2.2.ops ≤ D.ops + 302 ∧ (app (swrite D slot s).2 e).2.2.gh ≤ D.gh + 301 := by
  have h1 := swrite_ops h slot s
  have h2 := app_ops (swrite D slot s).2 e
  exact ⟨by omega, by omega⟩
theorem sprep_ops {D : Ds} (h : D.ok) (k : Kp) (tx : List UInt8) : (sprep D k tx).2.1.ops ≤ D.ops + 302 ∧ (sprep D k tx).2.1.gh ≤ D.gh + 301 := by
  have h1 := swrite_ops h (oth k) tx
  have h2 := swrite_app_ops h (oth k) tx (k.ent 1)
  unfold sprep
  split
  · exact ⟨by show (swrite D (oth k) tx).2.ops ≤ _; omega, by show (swrite D (oth k) tx).2.gh ≤ _; omega⟩
  · split
    · exact h2
    · exact h2
end Go.Proofs.Ytkdakmddlkgjkaa
