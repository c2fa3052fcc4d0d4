import Derived.Outline
import Derived.Test.YtkdakmddlkgjkaaRg7
open Go.RowKit Go.Lib
namespace Go.Proofs.Ytkdakmddlkgjkaa
set_option maxRecDepth 100000
theorem fail_ops (D : Ds) (m : Nat) : (D.fail m).ops = D.ops ∧ (D.fail m).gh = D.gh := by
  unfold Ds.fail; split <;> exact ⟨rfl, rfl⟩
theorem cut_ops (D : Ds) : D.cut.2.ops = D.ops + 1 ∧ D.cut.2.gh = D.gh := by
  unfold Ds.cut
  split
  · split
    · exact ⟨rfl, rfl⟩
    · exact fail_ops _ _
  · exact ⟨rfl, rfl⟩
theorem write_ops (D : Ds) (i : Int) (s : List UInt8) : (D.write i s).2.ops ≤ D.ops + 1 ∧ (D.write i s).2.gh ≤ D.gh + 1 := by
  unfold Ds.write
  split
  · exact ⟨Nat.le_succ _, Nat.le_succ _⟩
  · split
    · unfold Ds.put
      have := cut_ops { D with W := D.W ++ [(i.toNat, s)], gh := D.gh + 1 }
      exact ⟨by show _ ≤ _; rw [this.1]; exact Nat.le_refl _, by rw [this.2]; exact Nat.le_refl _⟩
    · exact ⟨Nat.le_succ _, Nat.le_succ _⟩
theorem sync_ops (D : Ds) : D.sync.2.ops ≤ D.ops + 1 ∧ D.sync.2.gh ≤ D.gh := by
  unfold Ds.sync
  have := cut_ops D
  split
  · exact ⟨Nat.le_succ _, Nat.le_refl _⟩
  · split
    · exact ⟨by rw [this.1]; exact Nat.le_refl _, by rw [this.2]; exact Nat.le_refl _⟩
    · exact ⟨by show D.cut.2.ops ≤ _; rw [this.1]; exact Nat.le_refl _, by show D.cut.2.gh ≤ _; rw [this.2]; exact Nat.le_refl _⟩
theorem app_ops (D : Ds) (e : En) : (app D e).2.2.ops ≤ D.ops + 2 ∧ (app D e).2.2.gh ≤ D.gh + 1 := by
  unfold app
  split
  · exact ⟨Nat.le_add_right _ _, Nat.le_add_right _ _⟩
  · split
    · exact ⟨Nat.le_add_right _ _, Nat.le_add_right _ _⟩
    · simp only
      split
      · have h1 := write_ops D ((newest D + 1) % 8) (En.blk { e with n := newest D + 1 })
        have h2 := sync_ops (D.write ((newest D + 1) % 8) (En.blk { e with n := newest D + 1 })).2
        split
        · exact ⟨by show (D.write _ _).2.ops ≤ _; omega, h1.2⟩
        · split
          · exact ⟨by show (Ds.sync _).2.ops ≤ _; omega, by show (Ds.sync _).2.gh ≤ _; omega⟩
          · exact ⟨by show (Ds.sync _).2.ops ≤ _; omega, by show (Ds.sync _).2.gh ≤ _; omega⟩
      · exact ⟨Nat.le_add_right _ _, Nat.le_add_right _ _⟩
theorem append_c {w : World} {b : Nat} {D : Ds} {F : Nat → Prop} (h : IsDisk w b D F) (hops : D.ops + 2 < 1000000000) (hgh : D.gh + 1 < 1000000000) (e : En) :
    Calls Try.prog 23 #[.pointer (some ⟨b, 0, none⟩), ev e] w fun r w' => r = .returned (.tuple #[ev (app D e).2.1, .int .i64 ((app D e).1 : Nat)]) ∧ ∃ F', IsDisk w' b (app D e).2.2 F' ∧ Upd F w w' ∧ ∀ k, F' k → F k ∨ w.heap.size ≤ k := by
  obtain ⟨k, n, sl, sz, sum⟩ := e
  by_cases ho : D.off = true
  · have e1 : app D ⟨k, n, sl, sz, sum⟩ = (7, E0, D) := by unfold app; rw [if_pos ho]
    rw [e1]
    exact append_off h k n sl sz sum ho
  · have ho' : D.off = false := by simpa using ho
    by_cases hn : newest D = 4294967295
    · have e1 : app D ⟨k, n, sl, sz, sum⟩ = (6, E0, D) := by unfold app; rw [if_neg ho, if_pos hn]
      rw [e1]
      exact append_full h k n sl sz sum ho' hn
    · by_cases hr : (En.mk k (newest D + 1) sl sz sum).right = true
      · obtain ⟨X, hx⟩ : ∃ X, (En.mk k (newest D + 1) sl sz sum).blk = X := ⟨_, rfl⟩
        obtain ⟨r1, D2, hw⟩ : ∃ r1 D2, D.write ((newest D + 1) % 8) X = (r1, D2) := ⟨_, _, rfl⟩
        have e0 : app D ⟨k, n, sl, sz, sum⟩ = if r1 ≠ 0 then (r1, E0, D2) else if D2.sync.1 ≠ 0 then (D2.sync.1, E0, D2.sync.2) else (0, ⟨k, newest D + 1, sl, sz, sum⟩, D2.sync.2) := by
          unfold app
          rw [if_neg ho, if_neg hn]
          simp only [hr, if_true, hx, hw]
        by_cases h1 : r1 ≠ 0
        · rw [e0, if_pos h1]
          exact append_wf h k n sl sz sum ho' hops hgh hn hr X hx r1 D2 hw h1
        · have h1' : r1 = 0 := by omega
          subst h1'
          have hop2 : D2.ops ≤ D.ops + 1 := by have := (write_ops D ((newest D + 1) % 8) X).1; rw [hw] at this; exact this
          obtain ⟨r2, D3, hs⟩ : ∃ r2 D3, D2.sync = (r2, D3) := ⟨_, _, rfl⟩
          rw [e0, if_neg h1, hs]
          by_cases h2 : r2 ≠ 0
          · rw [if_pos h2]
            exact append_sf h k n sl sz sum ho' hops hgh hn hr X hx D2 D3 r2 hw hop2 hs h2
          · have h2' : r2 = 0 := by omega
            subst h2'
            rw [if_neg h2]
            exact append_ok h k n sl sz sum ho' hops hgh hn hr X hx D2 D3 hw hop2 hs
      · have e1 : app D ⟨k, n, sl, sz, sum⟩ = (1, E0, D) := by
          unfold app; rw [if_neg ho, if_neg hn]; exact if_neg hr
        rw [e1]
        exact append_bad h k n sl sz sum ho' hn (by simpa using hr)
end Go.Proofs.Ytkdakmddlkgjkaa
