import Derived.Test.YtkdakmddlkgjkaaDk6
open Go.RowKit Go.Lib
namespace Go.Proofs.Ytkdakmddlkgjkaa
set_option maxRecDepth 100000
/-! Plain: texts in the slots of a disk. -/
/-- how many blocks a slot has -/
def bks (D : Ds) : Nat := (D.L.length - 8) / 2
def swr (slot : Int) : Nat := if 0 ≤ slot ∧ slot < 2 then 0 else 1
def cnt (n : Nat) : Nat := (n + 63) / 64
def chunk (s : List UInt8) (i : Nat) : List UInt8 := (s.drop (64 * i)).take 64 ++ List.replicate (64 - ((s.drop (64 * i)).take 64).length) 0
/-- the first so many blocks of a text are written from block a on -/
def swl (D : Ds) (a : Nat) (s : List UInt8) : Nat → Nat × Ds
  | 0 => (0, D)
  | i + 1 => if (swl D a s i).1 ≠ 0 then swl D a s i else (swl D a s i).2.write ((a + i : Nat) : Int) (chunk s i)
def swrite (D : Ds) (slot : Nat) (s : List UInt8) : Nat × Ds :=
  if bks D * 64 < s.length then (6, D) else
  if (swl D (8 + slot * bks D) s (cnt s.length)).1 ≠ 0 then swl D (8 + slot * bks D) s (cnt s.length) else (swl D (8 + slot * bks D) s (cnt s.length)).2.sync
def sgets (D : Ds) (a : Nat) : Nat → List UInt8
  | 0 => []
  | i + 1 => sgets D a i ++ D.get (a + i)
/-- a slot's first bytes, and what is wrong -/
def sread (D : Ds) (slot size : Int) : List UInt8 × Nat :=
  if swr slot ≠ 0 then ([], 1) else if size < 0 ∨ ((bks D * 64 : Nat) : Int) < size then ([], 1) else
  if D.off = true ∧ size ≠ 0 then ([], 7) else ((sgets D (8 + slot.toNat * bks D) (cnt size.toNat)).take size.toNat, 0)
theorem fail_len (D : Ds) (m : Nat) : (D.fail m).L.length = D.L.length := by
  unfold Ds.fail Ds.settle; split <;> simp [fl_len]
theorem cut_len (D : Ds) : D.cut.2.L.length = D.L.length := by
  unfold Ds.cut
  split
  · split
    · rfl
    · simp [fail_len]
  · rfl
theorem cut_ops (D : Ds) : D.cut.2.ops = D.ops + 1 ∧ D.cut.2.gh = D.gh := by
  unfold Ds.cut Ds.fail Ds.settle
  split
  · split
    · exact ⟨rfl, rfl⟩
    · dsimp only; split <;> exact ⟨rfl, rfl⟩
  · exact ⟨rfl, rfl⟩
theorem write_len (D : Ds) (i : Int) (s : List UInt8) : (D.write i s).2.L.length = D.L.length ∧ (D.write i s).2.ops ≤ D.ops + 1 ∧ (D.write i s).2.gh ≤ D.gh + 1 := by
  unfold Ds.write
  split
  · exact ⟨rfl, Nat.le_succ _, Nat.le_succ _⟩
  · split
    · unfold Ds.put
      refine ⟨cut_len _, ?_, ?_⟩
      · rw [(cut_ops _).1]; exact Nat.le_refl _
      · rw [(cut_ops _).2]; exact Nat.le_refl _
    · exact ⟨rfl, Nat.le_succ _, Nat.le_succ _⟩
theorem sync_len (D : Ds) : D.sync.2.L.length = D.L.length ∧ D.sync.2.ops ≤ D.ops + 1 ∧ D.sync.2.gh = D.gh := by
  unfold Ds.sync
  split
  · exact ⟨rfl, Nat.le_succ _, rfl⟩
  · have h := cut_ops D
    split
    · exact ⟨cut_len _, Nat.le_of_eq h.1, h.2⟩
    · refine ⟨?_, by show D.cut.2.ops ≤ _; omega, h.2⟩
      show (fl _ 0 _ _).length = _
      rw [fl_len, cut_len]
theorem swl_len (D : Ds) (a : Nat) (s : List UInt8) : ∀ i, (swl D a s i).2.L.length = D.L.length ∧ (swl D a s i).2.ops ≤ D.ops + i ∧ (swl D a s i).2.gh ≤ D.gh + i
  | 0 => ⟨rfl, Nat.le_refl _, Nat.le_refl _⟩
  | i + 1 => by
    have ih := swl_len D a s i
    unfold swl
    split
    · exact ⟨ih.1, by omega, by omega⟩
    · have h := write_len (swl D a s i).2 ((a + i : Nat) : Int) (chunk s i)
      exact ⟨by rw [h.1, ih.1], by omega, by omega⟩
theorem swl_next (D : Ds) (a : Nat) (s : List UInt8) (i : Nat) (h : (swl D a s i).1 = 0) : swl D a s (i + 1) = (swl D a s i).2.write ((a + i : Nat) : Int) (chunk s i) := by
  rw [swl, if_neg (by rw [h]; simp)]
/-- the first failure is the last thing -/
theorem swl_stop (D : Ds) (a : Nat) (s : List UInt8) (i : Nat) (h : (swl D a s i).1 ≠ 0) : ∀ k, i ≤ k → swl D a s k = swl D a s i
  | 0, hk => by rw [Nat.le_zero.1 hk]
  | k + 1, hk => by
    rcases Nat.lt_or_ge k i with h1 | h1
    · rw [show k + 1 = i by omega]
    · have ih := swl_stop D a s i h k h1
      rw [swl, ih, if_pos h]
theorem lastW_len (i : Nat) : ∀ (W : List (Nat × List UInt8)) (s : List UInt8), (∀ p ∈ W, p.2.length = 64) → s.length = 64 → (lastW i W s).length = 64
  | [], _, _, h => h
  | (j, t) :: W, s, hW, hs => by
    rw [lastW]
    refine lastW_len i W _ (fun p hp => hW p (by simp [hp])) ?_
    split
    · exact hW (j, t) (by simp)
    · exact hs
theorem get_len {D : Ds} (h : D.ok) (i : Nat) (hi : i < D.L.length) : (D.get i).length = 64 := by
  refine lastW_len i D.W _ (fun p hp => (h.w64 p hp).2) (h.l64 _ ?_)
  rw [List.getD_eq_getElem?_getD, List.getElem?_eq_getElem hi]
  exact List.getElem_mem hi
theorem sgets_len {D : Ds} (h : D.ok) (a : Nat) : ∀ n, a + n ≤ D.L.length → (sgets D a n).length = 64 * n
  | 0, _ => rfl
  | n + 1, hn => by
    rw [sgets, List.length_append, sgets_len h a n (by omega), get_len h (a + n) (by omega)]; omega
theorem chunk_len (s : List UInt8) (i : Nat) : (chunk s i).length = 64 := by
  have := List.length_take_le 64 (s.drop (64 * i))
  unfold chunk
  rw [List.length_append, List.length_replicate]
  omega
end Go.Proofs.Ytkdakmddlkgjkaa
