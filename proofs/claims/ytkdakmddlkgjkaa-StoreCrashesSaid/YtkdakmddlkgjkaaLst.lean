import Derived.Outline
import Derived.Test.YtkdakmddlkgjkaaKn7
import Derived.Test.YtkdakmddlkgjkaaGd
import Derived.Test.YtkdakmddlkgjkaaFop
open Go.RowKit Go.Lib
namespace Go.Proofs.Ytkdakmddlkgjkaa
set_option maxRecDepth 100000
open Sha
/-! StoreLast. -/
theorem gd_on (m : Nat) : (Ds0 m).on = false := rfl
/-- without a failure: what is so behind j acts -/
structure LInv (D : Ds) (k : Kp) (n : Nat) (wk : Option Kp) (nt : List UInt8) (j : Nat) : Prop where
  qu : Qu D
  gd : Gd D.L k n
  on : D.on = false
  len : D.L.length = 40
  hn : n ≤ j
  ops : D.ops ≤ 400 * j
  gh : D.gh ≤ 400 * j
  kt : k.tx.length ≤ 1000
  wk : ∀ k2, wk = some k2 → Kv D.L k2 ∧ k2.tx = nt ∧ k2.sl ≠ 2 ∧ k2.tx.length ≤ 1000
theorem LInv.skip {D : Ds} {k : Kp} {n : Nat} {wk : Option Kp} {nt : List UInt8} {j : Nat} (h : LInv D k n wk nt j) : LInv D k n wk nt (j + 1) :=
  ⟨h.qu, h.gd, h.on, h.len, by have := h.hn; omega, by have := h.ops; omega, by have := h.gh; omega, h.kt, h.wk⟩
theorem LInv.wait {D : Ds} {k : Kp} {n : Nat} {nt nt2 : List UInt8} {j : Nat} {wk : Option Kp} (h : LInv D k n wk nt j) : LInv D k n none nt2 j :=
  ⟨h.qu, h.gd, h.on, h.len, h.hn, h.ops, h.gh, h.kt, fun k2 e => by cases e⟩
theorem LInv.prep {D : Ds} {k : Kp} {n : Nat} {wk : Option Kp} {nt : List UInt8} {j : Nat} (h : LInv D k n wk nt j) (hok : D.ok) (hj : j < 40) (s : List UInt8) (hs : s.length ≤ 1000) : ∃ D' k2, sprep D k s = (0, D', some k2) ∧ LInv D' k (n + 1) (some k2) s (j + 1) := by
  have hb : bks D = 16 := by unfold bks; rw [h.len]
  have h1 := h.hn
  have h2 := h.ops
  have h3 := h.gh
  have hop := sprep_ops hok k s
  rcases h.gd.prep h.qu hok (by omega) s (by rw [hb]; omega) with ⟨a1, a2, a3, a4, a5, a6, a7⟩ | ⟨a0, _⟩
  · obtain ⟨⟨c, D', wt⟩, hr⟩ : ∃ r, sprep D k s = r := ⟨_, rfl⟩
    rw [hr] at a1 a2 a3 a4 a5 a6 a7 hop
    simp only at a1 a2 a3 a4 a5 a6 a7 hop
    subst a1 a4
    refine ⟨D', _, hr, a2, a3, a7 h.on, a6.trans h.len, by omega, by omega, by omega, h.kt, fun k2 e => ?_⟩
    cases e
    refine ⟨a5, rfl, ?_, hs⟩
    have := oth_lt k
    show ((oth k : Nat) : Int) ≠ 2
    omega
  · rw [h.on] at a0; cases a0
theorem LInv.put {D : Ds} {k k2 : Kp} {n : Nat} {wk : Option Kp} {nt : List UInt8} {j : Nat} (h : LInv D k n wk nt j) (hj : j < 40) (hv : Kv D.L k2) (hl : k2.tx.length ≤ 1000) (kind : Int) (hk : 1 ≤ kind ∧ kind ≤ 3) : ∃ e D', app D (k2.ent kind) = (0, e, D') ∧ LInv D' k2 (n + 1) none nt (j + 1) := by
  have h1 := h.hn
  have h2 := h.ops
  have h3 := h.gh
  have hop := app_ops D (k2.ent kind)
  rcases h.gd.put h.qu (by omega) hv (by rw [h.len]; decide) kind hk with ⟨a1, a2, a3, a4, a5, a6⟩ | ⟨a0, _⟩
  · obtain ⟨⟨c, e, D'⟩, hr⟩ : ∃ r, app D (k2.ent kind) = r := ⟨_, rfl⟩
    rw [hr] at a1 a2 a3 a4 a5 a6 hop
    simp only at a1 a2 a3 a4 a5 a6 hop
    subst a1
    exact ⟨e, D', hr, a2, a3, a6 h.on, a5.trans h.len, by omega, by omega, by omega, hl, fun k2 e => by cases e⟩
  · rw [h.on] at a0; cases a0
theorem linv_new : LInv (Ds0 40) K0 0 none [] 0 := by
  obtain ⟨g, q⟩ := gd_new 40 (by decide)
  exact ⟨q, g, rfl, by show (List.replicate 40 _).length = 40; exact List.length_replicate, Nat.le_refl _, Nat.le_refl _, Nat.le_refl _, by decide, fun k2 e => by cases e⟩
theorem txt_of {k : Kp} (h : k.sl ≠ 2) : txt k = k.tx ∧ has k = true := by unfold txt has; rw [if_neg h, if_neg h]; exact ⟨rfl, rfl⟩
end Go.Proofs.Ytkdakmddlkgjkaa
