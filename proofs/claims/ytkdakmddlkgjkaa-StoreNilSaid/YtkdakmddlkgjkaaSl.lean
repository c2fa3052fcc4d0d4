import Derived.Test.YtkdakmddlkgjkaaSlp
open Go.RowKit Go.Lib
namespace Go.Proofs.Ytkdakmddlkgjkaa
set_option maxRecDepth 100000
/-! The slots' small functions. -/
theorem blocks_d {w : World} {b : Nat} {D : Ds} {F : Nat → Prop} (h : IsDisk w b D F) :
    Calls Try.prog 75 #[.pointer (some ⟨b, 0, none⟩)] w fun e w' => e = .returned (.int .i64 (D.L.length : Int)) ∧ w = w' := by
  obtain ⟨lv, wv, m, h⟩ := h
  obtain ⟨a, c, rfl⟩ := OwnS.form h.ls
  have c0 : w.cell? ⟨b, 0, none⟩ = some (.slice a D.L.length c) := blk_cell h.blk 0
  have c2 : w.cell? ⟨b, 2, none⟩ = some (.map (some m)) := blk_cell h.blk 2
  obtain ⟨n, hn⟩ : ∃ n, D.L.length = n := ⟨_, rfl⟩
  rw [hn] at c0 ⊢
  clear h hn
  go_enter Try.func75, Try.ntmps75
  go_wp2_with fail
  refine (dthere_c m c2).mono ?_
  rintro e w' ⟨rfl, rfl⟩
  go_wp2
  go_ret
  exact ⟨rfl, rfl⟩
theorem bks_c {w : World} {b : Nat} {D : Ds} {F : Nat → Prop} (h : IsDisk w b D F) :
    Calls Try.prog 99 #[.pointer (some ⟨b, 0, none⟩)] w fun e w' => e = .returned (.int .i64 (bks D : Int)) ∧ w = w' := by
  have hB := blocks_d h
  have h1 := h.ok.lo
  have h2 := h.ok.hi
  unfold bks
  obtain ⟨n, hn⟩ : ∃ n, D.L.length = n := ⟨_, rfl⟩
  rw [hn] at hB h1 h2 ⊢
  clear h hn
  have e1 : (((n - 8) / 2 : Nat) : Int) = ((n : Int) - 8) / 2 := by omega
  have e3 : (0 : Int) ≤ (n : Int) - 8 := by omega
  have e4 : (8 : Int) ≤ (n : Int) := by omega
  have E1 := Hd.mk e1
  clear e1
  go_enter Try.func99, Try.ntmps99
  go_wp2_with fail
  refine hB.mono ?_
  rintro e w' ⟨rfl, rfl⟩
  go_wp2_with fail
  go_ret
  exact ⟨by rw [E1.out]; rfl, rfl⟩
theorem room_c {w : World} {b : Nat} {D : Ds} {F : Nat → Prop} (h : IsDisk w b D F) :
    Calls Try.prog 89 #[.pointer (some ⟨b, 0, none⟩)] w fun e w' => e = .returned (.int .i64 ((bks D * 64 : Nat) : Int)) ∧ w = w' := by
  have hB := bks_c h
  have h2 : bks D ≤ 252 := by have := h.ok.hi; unfold bks; omega
  obtain ⟨n, hn⟩ : ∃ n, bks D = n := ⟨_, rfl⟩
  rw [hn] at hB h2 ⊢
  clear h hn
  go_enter Try.func89, Try.ntmps89
  go_wp2_with fail
  refine hB.mono ?_
  rintro e w' ⟨rfl, rfl⟩
  go_wp2
  go_ret
  exact ⟨rfl, rfl⟩
theorem swr_c {w : World} {b : Nat} {D : Ds} {F : Nat → Prop} (h : IsDisk w b D F) (slot : Int) :
    Calls Try.prog 88 #[.pointer (some ⟨b, 0, none⟩), .int .i64 slot] w fun e w' => e = .returned (.int .i64 (swr slot : Nat)) ∧ w = w' := by
  have hB := blocks_d h
  have h1 := h.ok.lo
  obtain ⟨n, hn⟩ : ∃ n, D.L.length = n := ⟨_, rfl⟩
  rw [hn] at hB h1
  clear h hn
  have e0 : ((n : Int) == 0) = false := by rw [beq_eq_false_iff_ne]; omega
  unfold swr
  by_cases a1 : 0 ≤ slot
  · by_cases a2 : slot < 2
    · rw [if_pos ⟨a1, a2⟩]
      go_enter Try.func88, Try.ntmps88
      go_wp2_with fail
      refine hB.mono ?_
      rintro e w' ⟨rfl, rfl⟩
      go_wp2
      go_ret
      exact ⟨rfl, rfl⟩
    · rw [if_neg fun hc => a2 hc.2]
      go_enter Try.func88, Try.ntmps88
      go_wp2_with fail
      refine hB.mono ?_
      rintro e w' ⟨rfl, rfl⟩
      go_wp2
      go_ret
      exact ⟨rfl, rfl⟩
  · rw [if_neg fun hc => a1 hc.1]
    go_enter Try.func88, Try.ntmps88
    go_wp2_with fail
    refine hB.mono ?_
    rintro e w' ⟨rfl, rfl⟩
    go_wp2
    go_ret
    exact ⟨rfl, rfl⟩
theorem sfirst_c {w : World} {b : Nat} {D : Ds} {F : Nat → Prop} (h : IsDisk w b D F) (slot : Nat) (hs : slot < 2) :
    Calls Try.prog 91 #[.pointer (some ⟨b, 0, none⟩), .int .i64 (slot : Int)] w fun e w' => e = .returned (.int .i64 ((8 + slot * bks D : Nat) : Int)) ∧ w = w' := by
  have hB := bks_c h
  have h2 : bks D ≤ 252 := by have := h.ok.hi; unfold bks; omega
  obtain ⟨n, hn⟩ : ∃ n, bks D = n := ⟨_, rfl⟩
  rw [hn] at hB h2 ⊢
  clear h hn
  have h3 : slot * n ≤ 252 := by have : slot * n ≤ 1 * n := Nat.mul_le_mul_right n (by omega); omega
  have h4 : (0 : Int) ≤ (slot : Int) * (n : Int) := Int.mul_nonneg (by omega) (by omega)
  have h5 : (slot : Int) * (n : Int) ≤ 252 := by exact_mod_cast h3
  go_enter Try.func91, Try.ntmps91
  go_wp2_with fail
  refine hB.mono ?_
  rintro e w' ⟨rfl, rfl⟩
  go_wp2
  go_ret
  exact ⟨rfl, rfl⟩
theorem cnt_c (n : Nat) (hn : n < 1000000000) (w : World) :
    Calls Try.prog 90 #[.int .i64 (n : Int)] w fun e w' => e = .returned (.int .i64 ((cnt n : Nat) : Int)) ∧ w = w' := by
  have e1 : ((cnt n : Nat) : Int) = ((n : Int) + 64 - 1) / 64 := by unfold cnt; omega
  have E1 := Hd.mk e1
  have hn1 : (n : Int) < 1000000000 := by omega
  clear e1
  go_enter Try.func90, Try.ntmps90
  go_wp2
  go_ret
  exact ⟨by rw [E1.out]; rfl, rfl⟩
end Go.Proofs.Ytkdakmddlkgjkaa
