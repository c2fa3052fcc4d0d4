import Derived.Outline
import Derived.Test.YtkdakmddlkgjkaaLstW
import Derived.Test.YtkdakmddlkgjkaaCnt
open Go.RowKit Go.Lib
namespace Go.Proofs.Ytkdakmddlkgjkaa
set_option maxRecDepth 100000
open Sha
/-! StoreCrashes: plain. -/
/-- what is so behind j acts, the power being on -/
structure CInv (D : Ds) (k : Kp) (n : Nat) (j : Nat) : Prop where
  qu : Qu D
  gd : Gd D.L k n
  len : D.L.length = 40
  hn : n ≤ 2 * j
  ops : D.ops ≤ 700 * j
  gh : D.gh ≤ 700 * j
  kt : k.tx.length ≤ 1000
/-- .. the power having failed, perhaps -/
structure CPre (D : Ds) (k : Kp) (n : Nat) (j : Nat) : Prop where
  W : D.W = []
  gd : Gd D.L k n
  len : D.L.length = 40
  hn : n ≤ 2 * j + 2
  ops : D.ops ≤ 700 * j + 500
  gh : D.gh ≤ 700 * j + 500
  kt : k.tx.length ≤ 1000
theorem CPre.on {D : Ds} {k : Kp} {n j : Nat} (h : CPre D k n j) (m : Nat) : CInv (D.fail m).start k n (j + 1) := by
  obtain ⟨h1, h2, h3, h4, _⟩ := fail_start h.W m
  exact ⟨h2, by rw [h1]; exact h.gd, by rw [h1]; exact h.len, by have := h.hn; omega, by have := h.ops; omega, by have := h.gh; omega, h.kt⟩
theorem CInv.plan {D : Ds} {k : Kp} {n j : Nat} (h : CInv D k n j) (a m : Nat) : CInv (D.plan a m) k n (j + 1) :=
  ⟨h.qu.plan a m, h.gd, h.len, by have := h.hn; omega, by have := h.ops; show D.ops ≤ _; omega, by have := h.gh; show D.gh ≤ _; omega, h.kt⟩
/-- Prepare -/
theorem CInv.prep {D : Ds} {k : Kp} {n j : Nat} (h : CInv D k n j) (hok : D.ok) (hj : j < 40) (s : List UInt8) (hs : s.length ≤ 1000) :
    (∃ D' k2, sprep D k s = (0, D', some k2) ∧ Qu D' ∧ Gd D'.L k (n + 1) ∧ Kv D'.L k2 ∧ k2.tx = s ∧ k2.sl ≠ 2 ∧ D'.L.length = 40 ∧ D'.ops ≤ 700 * j + 302 ∧ D'.gh ≤ 700 * j + 301) ∨
    (∃ D' n', sprep D k s = (7, D', none) ∧ CPre D' k n' j) := by
  have hb : bks D = 16 := by unfold bks; rw [h.len]
  have h1 := h.hn
  have h2 := h.ops
  have h3 := h.gh
  have hop := sprep_ops hok k s
  obtain ⟨⟨c, D', wt⟩, hr⟩ : ∃ r, sprep D k s = r := ⟨_, rfl⟩
  have hc := h.gd.prep h.qu hok (by omega) s (by rw [hb]; omega)
  rw [hr] at hc hop ⊢
  simp only at hc hop
  rcases hc with ⟨a1, a2, a3, a4, a5, a6, _⟩ | ⟨_, a1, _, a3, a4, a5, n', a6, a7⟩
  · subst a1 a4
    refine .inl ⟨D', _, rfl, a2, a3, a5, rfl, ?_, a6.trans h.len, by omega, by omega⟩
    have := oth_lt k
    show ((oth k : Nat) : Int) ≠ 2
    omega
  · subst a1 a4
    exact .inr ⟨D', n', rfl, a3, a7, a5.trans h.len, by omega, by omega, by omega, h.kt⟩
/-- Commit of k2, or Drop (k2 = k) -/
theorem put_pre {D : Ds} {k k2 : Kp} {n j : Nat} (hq : Qu D) (hg : Gd D.L k n) (hn : n ≤ 2 * j + 1) (hj : j < 40) (hv : Kv D.L k2) (hl : D.L.length = 40) (ho : D.ops ≤ 700 * j + 302) (hh : D.gh ≤ 700 * j + 301) (kt : k.tx.length ≤ 1000) (kt2 : k2.tx.length ≤ 1000) (kind : Int) (hk : 1 ≤ kind ∧ kind ≤ 3) :
    (∃ e D', app D (k2.ent kind) = (0, e, D') ∧ CPre D' k2 (n + 1) j) ∨ (∃ e D', app D (k2.ent kind) = (7, e, D') ∧ (CPre D' k n j ∨ CPre D' k2 (n + 1) j)) := by
  have hop := app_ops D (k2.ent kind)
  have hc := hg.put hq (by omega) hv (by rw [hl]; decide) kind hk
  obtain ⟨⟨c, e, D'⟩, hr⟩ : ∃ r, app D (k2.ent kind) = r := ⟨_, rfl⟩
  rw [hr] at hc hop ⊢
  simp only at hc hop
  rcases hc with ⟨a1, a2, a3, _, a5, _⟩ | ⟨_, a1, _, a3, a4, a5⟩
  · subst a1
    exact .inl ⟨e, D', rfl, a2.W, a3, a5.trans hl, by omega, by omega, by omega, kt2⟩
  · subst a1
    refine .inr ⟨e, D', rfl, ?_⟩
    rcases a5 with a5 | a5
    · exact .inl ⟨a3, a5, a4.trans hl, by omega, by omega, by omega, kt⟩
    · exact .inr ⟨a3, a5, a4.trans hl, by omega, by omega, by omega, kt2⟩
theorem cinv_new : CInv (Ds0 40) K0 0 0 := by
  obtain ⟨g, q⟩ := gd_new 40 (by decide)
  exact ⟨q, g, by show (List.replicate 40 _).length = 40; exact List.length_replicate, Nat.le_refl _, Nat.le_refl _, Nat.le_refl _, by decide⟩
end Go.Proofs.Ytkdakmddlkgjkaa
