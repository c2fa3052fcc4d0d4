import Derived.Test.YtkdakmddlkgjkaaRx
open Go.RowKit Go.Lib
namespace Go.Proofs.Ytkdakmddlkgjkaa
set_option maxRecDepth 100000
open Sha
/-! RingCrashes: plain. -/
/-- what is so behind j acts -/
structure RInv (D : Ds) (n : Nat) (e : En) (j : Nat) : Prop where
  qu : Qu D
  nw : Nw D.L n e
  zero : n = 0 → e = E0
  hn : n ≤ j
  ops : D.ops ≤ 10 * j
  gh : D.gh ≤ 10 * j
theorem RInv.num {D : Ds} {n : Nat} {e : En} {j : Nat} (h : RInv D n e j) : e.n = (n : Int) := by
  by_cases h0 : n = 0
  · rw [h.zero h0, h0]; rfl
  · exact (h.nw.last h0).2
theorem RInv.last {D : Ds} {n : Nat} {e : En} {j : Nat} (h : RInv D n e j) : lastV D = .tuple #[ev e, .bool (decide (n ≠ 0)), .int .i64 0] := by
  unfold lastV lastE
  rw [if_neg (by rw [h.qu.off]; decide), scan_L h.qu.W]
  by_cases h0 : n = 0
  · rw [h.nw.zero h0, h.zero h0, decide_eq_false (by simp [h0])]; rfl
  · obtain ⟨h1, _⟩ := h.nw.last h0
    rw [h1, decide_eq_true h0]
    have : (scanP (jp D.L) 8).isEmpty = false := by
      cases hs : scanP (jp D.L) 8 with
      | nil => rw [hs] at h1; cases h1
      | cons a l => rfl
    rw [this]; rfl
theorem rinv_new : RInv (Ds0 16) 0 E0 0 := by
  obtain ⟨g, q⟩ := gd_new 16 (by decide)
  obtain ⟨e, hw, _⟩ := g.nw
  exact ⟨q, ⟨hw.len, hw.zero, fun h => absurd rfl h⟩, fun _ => rfl, Nat.le_refl _, Nat.le_refl _, Nat.le_refl _⟩
theorem RInv.plan {D : Ds} {n : Nat} {e : En} {j : Nat} (h : RInv D n e j) (a m : Nat) : RInv (D.plan a m) n e j :=
  ⟨h.qu.plan a m, h.nw, h.zero, h.hn, h.ops, h.gh⟩
/-- the entry that is wanted -/
def wantE (r3 r2 n j : Nat) : En := ⟨1 + (r3 : Int), (n : Int) + 1, (r2 : Int), (j : Int), List.replicate 32 (UInt8.ofNat j)⟩
theorem want_right (r3 r2 n j : Nat) (h3 : r3 < 3) (h2 : r2 < 2) (hn : n ≤ 100) (hj : j ≤ 100) : (wantE r3 r2 n j).right = true := by
  refine decide_eq_true ⟨?_, ?_, ?_, ?_, ?_, ?_, ?_, ?_, ?_⟩ <;> simp only [wantE, List.length_replicate] <;> omega
/-- A round: the append, the power's failure, and on again. -/
theorem RInv.round {D : Ds} {n : Nat} {e : En} {j : Nat} (h : RInv D n e j) (hj : j < 40) (r3 r2 : Nat) (h3 : r3 < 3) (h2 : r2 < 2) (m : Nat) :
    ∃ (c : Nat) (x : En) (D1 : Ds) (n2 : Nat) (e2 : En), app D (wantE r3 r2 n j) = (c, x, D1) ∧ ((c = 0 ∧ x = wantE r3 r2 n j ∧ n2 = n + 1 ∧ e2 = wantE r3 r2 n j) ∨ (c = 7 ∧ ((n2 = n + 1 ∧ e2 = wantE r3 r2 n j) ∨ (n2 = n ∧ e2 = e)))) ∧
      RInv (((D1.plan 1099511627776 0).fail m).start) n2 e2 (j + 1) ∧
      (∀ y ∈ scan D 8, (n : Int) + 1 - 8 < y.n → y ∈ scan (((D1.plan 1099511627776 0).fail m).start) 8) := by
  have hr := want_right r3 r2 n j h3 h2 (by have := h.hn; omega) (by omega)
  have hop := app_ops D (wantE r3 r2 n j)
  have hn := h.hn
  have ho := h.ops
  have hg := h.gh
  have hx : ({ (wantE r3 r2 n j) with n := (n : Int) + 1 } : En) = wantE r3 r2 n j := rfl
  have hc := app_cases h.nw h.qu (by omega) (wantE r3 r2 n j) (by rw [hx]; exact hr)
  rw [hx] at hc
  obtain ⟨⟨c, x, D1⟩, ha⟩ : ∃ r, app D (wantE r3 r2 n j) = r := ⟨_, rfl⟩
  rw [ha] at hc hop ⊢
  simp only at hc hop
  have hset := h.nw.set hr rfl
  have hfin : D1.W = [] → ∀ n2 e2, Nw D1.L n2 e2 → (n2 = 0 → e2 = E0) → n2 ≤ j + 1 → RInv (((D1.plan 1099511627776 0).fail m).start) n2 e2 (j + 1) := by
    intro hW n2 e2 hnw hz hle
    obtain ⟨f1, f2, f3, f4, _⟩ := fail_start (D := D1.plan 1099511627776 0) hW m
    exact ⟨f2, by rw [f1]; exact hnw, hz, hle, by rw [f3]; show D1.ops ≤ _; omega, by rw [f4]; show D1.gh ≤ _; omega⟩
  have hkeep : D1.W = [] → (D1.L = D.L ∨ D1.L = D.L.set ((n + 1) % 8) (wantE r3 r2 n j).blk) → ∀ y ∈ scan D 8, (n : Int) + 1 - 8 < y.n → y ∈ scan (((D1.plan 1099511627776 0).fail m).start) 8 := by
    intro hW hL y hy hlt
    obtain ⟨f1, f2, _⟩ := fail_start (D := D1.plan 1099511627776 0) hW m
    rw [scan_L f2.W, f1]
    rw [scan_L h.qu.W] at hy
    show y ∈ scanP (jp D1.L) 8
    rcases hL with hL | hL
    · rw [hL]; exact hy
    · rw [hL]
      refine (mem_set h.nw hr rfl y).2 (.inr ⟨hy, ?_⟩)
      have := h.nw.le y hy
      omega
  rcases hc with ⟨a1, a2, a3, a4, _⟩ | ⟨_, a1, _, a3, a4⟩
  · subst a1 a2
    exact ⟨0, _, D1, n + 1, _, rfl, .inl ⟨rfl, rfl, rfl, rfl⟩, hfin a3.W _ _ (by rw [a4]; exact hset) (fun h0 => by omega) (by omega), hkeep a3.W (.inr a4)⟩
  · subst a1
    rcases a4 with a4 | a4
    · exact ⟨7, x, D1, n, e, rfl, .inr ⟨rfl, .inr ⟨rfl, rfl⟩⟩, hfin a3 _ _ (by rw [a4]; exact h.nw) h.zero (by omega), hkeep a3 (.inl a4)⟩
    · exact ⟨7, x, D1, n + 1, _, rfl, .inr ⟨rfl, .inl ⟨rfl, rfl⟩⟩, hfin a3 _ _ (by rw [a4]; exact hset) (fun h0 => by omega) (by omega), hkeep a3 (.inr a4)⟩
end Go.Proofs.Ytkdakmddlkgjkaa
