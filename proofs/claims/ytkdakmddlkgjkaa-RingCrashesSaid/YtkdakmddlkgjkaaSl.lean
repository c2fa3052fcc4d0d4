import Derived.Test.YtkdakmddlkgjkaaDk6
open Go.RowKit Go.Lib
namespace Go.Proofs.Ytkdakmddlkgjkaa
set_option maxRecDepth 100000
/-! Plain: texts in the slots of a disk. -/
/-- how many blocks a slot has -/
def bks (D : Ds) : Nat := (D.L.length - 8) / 2
def swr (slot : Int) : Nat := if 0 ≤ slot ∧ slot < 2 then 0 else 1
def cnt (n : Nat) : Nat := (n + 63) / 64
def chunk (s : List UInt8) (i : Nat) : List UInt8 := (s.drop (64 * i)).take 64 ++ List.replicate (64 - ((s.drop (64 * i)).take 64).length) 0
/-- the first so many blocks of a text are written from block a on -/
def swl (D : Ds) (a : Nat) (s : List UInt8) : Nat → Nat × Ds
  | 0 => (0, D)
  | i + 1 => if (swl D a s i).1 ≠ 0 then swl D a s i else (swl D a s i).2.write ((a + i : Nat) : Int) (chunk s i)
def swrite (D : Ds) (slot : Nat) (s : List UInt8) : Nat × Ds :=
  if bks D * 64 < s.length then (6, D) else
  if (swl D (8 + slot * bks D) s (cnt s.length)).1 ≠ 0 then swl D (8 + slot * bks D) s (cnt s.length) else (swl D (8 + slot * bks D) s (cnt s.length)).2.sync
def sgets (D : Ds) (a : Nat) : Nat → List UInt8
  | 0 => []
  | i + 1 => sgets D a i ++ D.get (a + i)
/-- a slot's first bytes, and what is wrong -/
def sread (D : Ds) (slot size : Int) : List UInt8 × Nat :=
  if swr slot ≠ 0 then ([], 1) else if size < 0 ∨ ((bks D * 64 : Nat) : Int) < size then ([], 1) else
  if D.off = true ∧ size ≠ 0 then ([], 7) else ((sgets D (8 + slot.toNat * bks D) (cnt size.toNat)).take size.toNat, 0)
theorem fail_len (D : Ds) (m : Nat) : (D.fail m).L.length = D.L.length := by
  unfold Ds.fail Ds.settle; split <;> simp [fl_len]
theorem cut_len (D : Ds) : D.cut.2.L.length = D.L.length := by
  unfold Ds.cut
  split
  · split
    · rfl
    · simp [fail_len]
  · rfl
theorem cut_ops (D : Ds) : D.cut.2.ops = D.ops + 1 ∧ D.cut.2.gh = D.gh := by
  unfold Ds.cut Ds.fail Ds.settle
  split
  · split
    · exact ⟨rfl, rfl⟩
    · dsimp only; split <;> exact ⟨rfl, rfl⟩
  · exact ⟨rfl, rfl⟩
theorem write_len (D : Ds) (i : Int) (s : List UInt8) : (D.write i s).2.L.length = D.L.length ∧ (D.write i s).2.ops ≤ D.ops + 1 ∧ (D.write i s).2.gh ≤ D.gh + 1 := by
  unfold Ds.write
  split
  · exact ⟨rfl, Nat.le_succ _, Nat.le_succ _⟩
  · split
    · unfold Ds.put
      refine ⟨cut_len _, ?_, ?_⟩
      · rw [(cut_ops _).1]; exact Nat.le_refl _
      · rw [(cut_ops _).2]; exact Nat.le_refl _
    · exact ⟨rfl, Nat.le_succ _, Nat.le_succ _⟩
theorem sync_len (D : Ds) : D.sync.2.L.length = D.L.length ∧ D.sync.2.ops ≤ D.ops + 1 ∧ D.sync.2.gh = D.gh := by
  unfold Ds.sync
  split
  · exact ⟨rfl, Nat.le_succ _, rfl⟩
  · have h := cut_ops D
    split
    · exact ⟨cut_len _, Nat.le_of_eq h.1, h.2⟩
    · refine ⟨?_, by show D.cut.2.ops ≤ _; omega, h.2⟩
      show (fl _ 0 _ _).length = _
      rw [fl_len, cut_len]
theorem swl_len (D : Ds) (a : Nat) (s : List UInt8) : ∀ i, (swl D a s i).2.L.length = D.L.length ∧ (swl D a s i).2.ops ≤ D.ops + i ∧ (swl D a s i).2.gh ≤ D.gh + i
  | 0 => ⟨rfl, Nat.le_refl _, Nat.le_refl _⟩
  | i + 1 => by
    have ih := swl_len D a s i
    unfold swl
    split
    · exact ⟨ih.1, by omega, by omega⟩
    · have h := write_len (swl D a s i).2 ((a + i : Nat) : Int) (chunk s i)
      exact ⟨by rw [h.1, ih.1], by omega, by omega⟩
theorem swl_next (D : Ds) (a : Nat) (s : List UInt8) (i : Nat) (h : (swl D a s i).1 = 0) : swl D a s (i + 1) = (swl D a s i).2.write ((a + i : Nat) : Int) (chunk s i) := by
  rw [swl, if_neg (by rw [h]; simp)]
/-- the first failure is the last thing -/
theorem swl_stop (D : Ds) (a : Nat) (s : List UInt8) (i : Nat) (h : (swl D a s i).1 ≠ 0) : ∀ k, i ≤ k → swl D a s k = swl D a s i
  | 0, hk => by rw [Nat.le_zero.1 hk]
  | k + 1, hk => by
    rcases Nat.lt_or_ge k i with h1 | h1
    · rw [show k + 1 = i by omega]
    · have ih := swl_stop D a s i h k h1
      rw [swl, ih, if_pos h]
theorem lastW_len (i : Nat) : ∀ (W : List (Nat × List UInt8)) (s : List UInt8), (∀ p ∈ W, p.2.length = 64) → s.length = 64 → (lastW i W s).length = 64
  | [], _, _, h => h
  | (j, t) :: W, s, hW, hs => by
    rw [lastW]
    refine lastW_len i W _ (fun p hp => hW p (by simp [hp])) ?_
    split
    · exact hW (j, t) (by simp)
    · exact hs
theorem get_len {D : Ds} (h : D.ok) (i : Nat) (hi : i < D.L.length) : (D.get i).length = 64 := by
  refine lastW_len i D.W _ (fun p hp => (h.w64 p hp).2) (h.l64 _ ?_)
  rw [List.getD_eq_getElem?_getD, List.getElem?_eq_getElem hi]
  exact List.getElem_mem hi
theorem sgets_len {D : Ds} (h : D.ok) (a : Nat) : ∀ n, a + n ≤ D.L.length → (sgets D a n).length = 64 * n
  | 0, _ => rfl
  | n + 1, hn => by
    rw [sgets, List.length_append, sgets_len h a n (by omega), get_len h (a + n) (by omega)]; omega
theorem chunk_len (s : List UInt8) (i : Nat) : (chunk s i).length = 64 := by
  have := List.length_take_le 64 (s.drop (64 * i))
  unfold chunk
  rw [List.length_append, List.length_replicate]
  omega
end Go.Proofs.Ytkdakmddlkgjkaa
open Go.RowKit Go.Lib
namespace Go.Proofs.Ytkdakmddlkgjkaa
set_option maxRecDepth 100000
/-! The slots' small functions. -/
theorem blocks_d {w : World} {b : Nat} {D : Ds} {F : Nat → Prop} (h : IsDisk w b D F) :
    Calls Try.prog 75 #[.pointer (some ⟨b, 0, none⟩)] w fun e w' => e = .returned (.int .i64 (D.L.length : Int)) ∧ w = w' := by
  obtain ⟨lv, wv, m, h⟩ := h
  obtain ⟨a, c, rfl⟩ := OwnS.form h.ls
  have c0 : w.cell? ⟨b, 0, none⟩ = some (.slice a D.L.length c) := blk_cell h.blk 0
  have c2 : w.cell? ⟨b, 2, none⟩ = some (.map (some m)) := blk_cell h.blk 2
  obtain ⟨n, hn⟩ : ∃ n, D.L.length = n := ⟨_, rfl⟩
  rw [hn] at c0 ⊢
  clear h hn
  go_enter Try.func75, Try.ntmps75
  go_wp2_with fail
  refine (dthere_c m c2).mono ?_
  rintro e w' ⟨rfl, rfl⟩
  go_wp2
  go_ret
  exact ⟨rfl, rfl⟩
theorem bks_c {w : World} {b : Nat} {D : Ds} {F : Nat → Prop} (h : IsDisk w b D F) :
    Calls Try.prog 99 #[.pointer (some ⟨b, 0, none⟩)] w fun e w' => e = .returned (.int .i64 (bks D : Int)) ∧ w = w' := by
  have hB := blocks_d h
  have h1 := h.ok.lo
  have h2 := h.ok.hi
  unfold bks
  obtain ⟨n, hn⟩ : ∃ n, D.L.length = n := ⟨_, rfl⟩
  rw [hn] at hB h1 h2 ⊢
  clear h hn
  have e1 : (((n - 8) / 2 : Nat) : Int) = ((n : Int) - 8) / 2 := by omega
  have e3 : (0 : Int) ≤ (n : Int) - 8 := by omega
  have e4 : (8 : Int) ≤ (n : Int) := by omega
  have E1 := Hd.mk e1
  clear e1
  go_enter Try.func99, Try.ntmps99
  go_wp2_with fail
  refine hB.mono ?_
  rintro e w' ⟨rfl, rfl⟩
  go_wp2_with fail
  go_ret
  exact ⟨by rw [E1.out]; rfl, rfl⟩
theorem room_c {w : World} {b : Nat} {D : Ds} {F : Nat → Prop} (h : IsDisk w b D F) :
    Calls Try.prog 89 #[.pointer (some ⟨b, 0, none⟩)] w fun e w' => e = .returned (.int .i64 ((bks D * 64 : Nat) : Int)) ∧ w = w' := by
  have hB := bks_c h
  have h2 : bks D ≤ 252 := by have := h.ok.hi; unfold bks; omega
  obtain ⟨n, hn⟩ : ∃ n, bks D = n := ⟨_, rfl⟩
  rw [hn] at hB h2 ⊢
  clear h hn
  go_enter Try.func89, Try.ntmps89
  go_wp2_with fail
  refine hB.mono ?_
  rintro e w' ⟨rfl, rfl⟩
  go_wp2
  go_ret
  exact ⟨rfl, rfl⟩
theorem swr_c {w : World} {b : Nat} {D : Ds} {F : Nat → Prop} (h : IsDisk w b D F) (slot : Int) :
    Calls Try.prog 88 #[.pointer (some ⟨b, 0, none⟩), .int .i64 slot] w fun e w' => e = .returned (.int .i64 (swr slot : Nat)) ∧ w = w' := by
  have hB := blocks_d h
  have h1 := h.ok.lo
  obtain ⟨n, hn⟩ : ∃ n, D.L.length = n := ⟨_, rfl⟩
  rw [hn] at hB h1
  clear h hn
  have e0 : ((n : Int) == 0) = false := by rw [beq_eq_false_iff_ne]; omega
  unfold swr
  by_cases a1 : 0 ≤ slot
  · by_cases a2 : slot < 2
    · rw [if_pos ⟨a1, a2⟩]
      go_enter Try.func88, Try.ntmps88
      go_wp2_with fail
      refine hB.mono ?_
      rintro e w' ⟨rfl, rfl⟩
      go_wp2
      go_ret
      exact ⟨rfl, rfl⟩
    · rw [if_neg fun hc => a2 hc.2]
      go_enter Try.func88, Try.ntmps88
      go_wp2_with fail
      refine hB.mono ?_
      rintro e w' ⟨rfl, rfl⟩
      go_wp2
      go_ret
      exact ⟨rfl, rfl⟩
  · rw [if_neg fun hc => a1 hc.1]
    go_enter Try.func88, Try.ntmps88
    go_wp2_with fail
    refine hB.mono ?_
    rintro e w' ⟨rfl, rfl⟩
    go_wp2
    go_ret
    exact ⟨rfl, rfl⟩
theorem sfirst_c {w : World} {b : Nat} {D : Ds} {F : Nat → Prop} (h : IsDisk w b D F) (slot : Nat) (hs : slot < 2) :
    Calls Try.prog 91 #[.pointer (some ⟨b, 0, none⟩), .int .i64 (slot : Int)] w fun e w' => e = .returned (.int .i64 ((8 + slot * bks D : Nat) : Int)) ∧ w = w' := by
  have hB := bks_c h
  have h2 : bks D ≤ 252 := by have := h.ok.hi; unfold bks; omega
  obtain ⟨n, hn⟩ : ∃ n, bks D = n := ⟨_, rfl⟩
  rw [hn] at hB h2 ⊢
  clear h hn
  have h3 : slot * n ≤ 252 := by have : slot * n ≤ 1 * n := Nat.mul_le_mul_right n (by omega); omega
  have h4 : (0 : Int) ≤ (slot : Int) * (n : Int) := Int.mul_nonneg (by omega) (by omega)
  have h5 : (slot : Int) * (n : Int) ≤ 252 := by exact_mod_cast h3
  go_enter Try.func91, Try.ntmps91
  go_wp2_with fail
  refine hB.mono ?_
  rintro e w' ⟨rfl, rfl⟩
  go_wp2
  go_ret
  exact ⟨rfl, rfl⟩
theorem cnt_c (n : Nat) (hn : n < 1000000000) (w : World) :
    Calls Try.prog 90 #[.int .i64 (n : Int)] w fun e w' => e = .returned (.int .i64 ((cnt n : Nat) : Int)) ∧ w = w' := by
  have e1 : ((cnt n : Nat) : Int) = ((n : Int) + 64 - 1) / 64 := by unfold cnt; omega
  have E1 := Hd.mk e1
  have hn1 : (n : Int) < 1000000000 := by omega
  clear e1
  go_enter Try.func90, Try.ntmps90
  go_wp2
  go_ret
  exact ⟨by rw [E1.out]; rfl, rfl⟩
end Go.Proofs.Ytkdakmddlkgjkaa
