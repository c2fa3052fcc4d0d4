import Derived.Test.YtkdakmddlkgjkaaSt
open Go.RowKit Go.Lib
namespace Go.Proofs.Ytkdakmddlkgjkaa
set_option maxRecDepth 100000
open Sha
/-! A store in memory; store.Open. -/
def stcells (k : Kp) (b : Nat) (odd : Bool) (q : Option Nat) : Array Value :=
  #[.int .i64 k.sl, .string ⟨k.tx.toArray⟩, .string ⟨k.sm.toArray⟩, .pointer (some ⟨b, 0, none⟩), .bool odd, .pointer (q.map fun q => ⟨q, 0, none⟩)]
/-- Block p is a store over the disk at b: what it keeps, whether it is odd, what waits (in block q). -/
structure StAt (w : World) (p b : Nat) (k : Kp) (odd : Bool) (wt : Option (Nat × Kp)) : Prop where
  blk : w.heap[p]? = some (.cells (stcells k b odd (wt.map (·.1))) 93 (0, 0))
  wq : ∀ q k', wt = some (q, k') → w.heap[q]? = some (.cells (kcells k') 90 (0, 0)) ∧ q ≠ p
theorem StAt.keep {w w' : World} {p b : Nat} {k : Kp} {odd : Bool} {wt : Option (Nat × Kp)} (h : StAt w p b k odd wt) (hp : w'.heap[p]? = w.heap[p]?) (hq : ∀ q k', wt = some (q, k') → w'.heap[q]? = w.heap[q]?) : StAt w' p b k odd wt :=
  ⟨by rw [hp]; exact h.blk, fun q k' e => ⟨by rw [hq q k' e]; exact (h.wq q k' e).1, (h.wq q k' e).2⟩⟩
def sopen (D : Ds) : Option (Kp × Bool) × Nat :=
  if D.off then (none, 7) else
  if (scan D 8).isEmpty = true ∨ (lastE D).sl = 2 then (some (K0, false), 0) else
  if (rdk D (lastE D)).2.2 ≠ 0 then (none, (rdk D (lastE D)).2.2) else (some ((rdk D (lastE D)).1, !(rdk D (lastE D)).2.1), 0)
theorem sopen_err {w : World} {b : Nat} {D : Ds} {F : Nat → Prop} (h : IsDisk w b D F) (ho : D.off = true) :
    Calls Try.prog 41 #[.pointer (some ⟨b, 0, none⟩)] w fun e w' => e = .returned (.tuple #[.pointer none, .int .i64 7]) ∧ Below w.heap.size w w' := by
  have HL := last_c h
  unfold lastV at HL
  rw [if_pos ho] at HL
  change Calls Try.prog _ _ _ fun e w' => e = .returned (.tuple #[.agg #[.int .i64 0, .int .i64 0, .int .i64 0, .int .i64 0, .string ⟨#[]⟩], .bool false, .int .i64 7]) ∧ Below w.heap.size w w' at HL
  clear h ho
  go_enter Try.func41, Try.ntmps41
  go_wp2_with fail
  refine HL.mono ?_
  rintro e w1 ⟨rfl, hb⟩
  have B1 := Hd.mk hb
  clear hb HL
  go_wp2_with fail
  go_ret2
  exact ⟨rfl, B1.out.alloc B1.out.size _⟩
set_option maxHeartbeats 1000000 in
theorem sopen_new {w : World} {b : Nat} {D : Ds} {F : Nat → Prop} (h : IsDisk w b D F) (ho : D.off = false) (hc : (scan D 8).isEmpty = true ∨ (lastE D).sl = 2) :
    Calls Try.prog 41 #[.pointer (some ⟨b, 0, none⟩)] w fun e w' => ∃ p, e = .returned (.tuple #[.pointer (some ⟨p, 0, none⟩), .int .i64 0]) ∧ Below w.heap.size w w' ∧ w.heap.size ≤ p ∧ StAt w' p b K0 false none := by
  have HL := last_c h
  unfold lastV at HL
  rw [if_neg (by rw [ho]; decide)] at HL
  obtain ⟨t, ht⟩ : ∃ t, (scan D 8).isEmpty = t := ⟨_, rfl⟩
  obtain ⟨⟨xk, xn, xl, xz, xs⟩, hx⟩ : ∃ x, lastE D = x := ⟨_, rfl⟩
  rw [ht, hx] at HL hc
  change Calls Try.prog _ _ _ fun e w' => e = .returned (.tuple #[.agg #[.int .i64 xk, .int .i64 xn, .int .i64 xl, .int .i64 xz, .string ⟨xs.toArray⟩], .bool (!t), .int .i64 0]) ∧ Below w.heap.size w w' at HL
  obtain ⟨Z, hZ⟩ : ∃ Z, List.replicate 32 (0 : UInt8) = Z := ⟨_, rfl⟩
  have HKZ : Hd (K0 = ⟨2, [], Z⟩) := ⟨by rw [← hZ]; rfl⟩
  have hnone := none_c
  rw [HKZ.out] at hnone ⊢
  change ∀ w, Calls Try.prog _ _ w fun e w' => e = .returned (.agg #[.int .i64 2, .string ⟨#[]⟩, .string ⟨Z.toArray⟩]) ∧ Below w.heap.size w w' at hnone
  clear h ho hZ ht hx HKZ
  have hc2 : t = true ∨ (t = false ∧ (xl == 2) = true) := by
    cases t
    · exact .inr ⟨rfl, by rw [beq_iff_eq]; exact hc.resolve_left (by decide)⟩
    · exact .inl rfl
  clear hc
  rcases hc2 with rfl | ⟨rfl, e2⟩
  all_goals
    go_enter Try.func41, Try.ntmps41
    go_wp2_with fail
    refine HL.mono ?_
    rintro e w1 ⟨rfl, hb⟩
    have B1 := Hd.mk hb
    clear hb HL
    obtain ⟨N1, hN1⟩ : ∃ N1, w1.heap.size = N1 := ⟨_, rfl⟩
    have X1 := Hd.mk (blk_new w1 #[.int .i64 xk, .int .i64 xn, .int .i64 xl, .int .i64 xz, .string ⟨xs.toArray⟩] 28 (0, 0) N1 hN1)
    have HN1 := Hd.mk hN1
    clear hN1
    go_wp2_with fail
    refine (hnone _).mono ?_
    rintro e w2 ⟨rfl, hb⟩
    have B2 : Hd (Below w.heap.size w w2) := ⟨(B1.out.alloc B1.out.size _).trans (hb.mono (by rw [sz_alloc]; have := B1.out.size; omega))⟩
    have X2 := Hd.mk (blk_below X1.out hb (blk_lt X1.out))
    rw [HN1.out]
    have x2 : ∀ o, (w2.alloc o).cell? ⟨N1, 2, none⟩ = some (.int .i64 xl) := fun o => by
      have h := blk_cell (blk_alloc X2.out o) 2
      simpa only [List.getElem?_toArray, List.getElem?_cons_zero, List.getElem?_cons_succ] using h
    obtain ⟨N2, hN2⟩ : ∃ N2, w2.heap.size = N2 := ⟨_, rfl⟩
    have HSt : Hd (StAt (w2.alloc (.cells (stcells ⟨2, [], Z⟩ b false none) 93 (0, 0))) N2 b ⟨2, [], Z⟩ false none) := ⟨⟨blk_new _ _ _ _ _ hN2, fun q k' e => by cases e⟩⟩
    have HN2 := Hd.mk hN2
    clear hb hnone X1 hN2
    go_wp2_with fail
    go_ret2
    exact ⟨_, rfl, B2.out.alloc B2.out.size _, B2.out.size, by rw [HN2.out]; exact HSt.out⟩
set_option maxHeartbeats 1000000 in
theorem sopen_read {w : World} {b : Nat} {D : Ds} {F : Nat → Prop} (h : IsDisk w b D F) (ho : D.off = false) (h1 : (scan D 8).isEmpty = false) (h2 : (lastE D).sl ≠ 2) :
    Calls Try.prog 41 #[.pointer (some ⟨b, 0, none⟩)] w fun e w' => Below w.heap.size w w' ∧
      (if (rdk D (lastE D)).2.2 = 0 then ∃ p, e = .returned (.tuple #[.pointer (some ⟨p, 0, none⟩), .int .i64 0]) ∧ w.heap.size ≤ p ∧ StAt w' p b (rdk D (lastE D)).1 (!(rdk D (lastE D)).2.1) none
        else e = .returned (.tuple #[.pointer none, .int .i64 ((rdk D (lastE D)).2.2 : Nat)])) := by
  have HL := last_c h
  have HR := fun w' (hb : Below w.heap.size w w') => rdk_c (h.ext hb) (lastE D)
  unfold lastV at HL
  rw [if_neg (by rw [ho]; decide), h1] at HL
  obtain ⟨⟨⟨rsl, rtx, rsm⟩, rb, rc⟩, hr⟩ : ∃ r, rdk D (lastE D) = r := ⟨_, rfl⟩
  rw [hr] at HR ⊢
  obtain ⟨⟨xk, xn, xl, xz, xs⟩, hx⟩ : ∃ x, lastE D = x := ⟨_, rfl⟩
  rw [hx] at HL h2 HR
  change Calls Try.prog _ _ _ fun e w' => e = .returned (.tuple #[.agg #[.int .i64 xk, .int .i64 xn, .int .i64 xl, .int .i64 xz, .string ⟨xs.toArray⟩], .bool true, .int .i64 0]) ∧ Below w.heap.size w w' at HL
  change ∀ w', Below w.heap.size w w' → Calls Try.prog 69 #[.pointer (some ⟨b, 0, none⟩), .agg #[.int .i64 xk, .int .i64 xn, .int .i64 xl, .int .i64 xz, .string ⟨xs.toArray⟩]] w' fun e w2 => e = .returned (.tuple #[.agg #[.int .i64 rsl, .string ⟨rtx.toArray⟩, .string ⟨rsm.toArray⟩], .bool rb, .int .i64 (rc : Int)]) ∧ Below w'.heap.size w' w2 at HR
  have e2 : (xl == 2) = false := by rw [beq_eq_false_iff_ne]; exact h2
  show Calls Try.prog _ _ _ fun e w' => Below w.heap.size w w' ∧ (if rc = 0 then ∃ p, e = .returned (.tuple #[.pointer (some ⟨p, 0, none⟩), .int .i64 0]) ∧ w.heap.size ≤ p ∧ StAt w' p b ⟨rsl, rtx, rsm⟩ (!rb) none else e = .returned (.tuple #[.pointer none, .int .i64 (rc : Int)]))
  obtain ⟨Z, hZ⟩ : ∃ Z, List.replicate 32 (0 : UInt8) = Z := ⟨_, rfl⟩
  have hnone := none_c
  have hkz : kv K0 = .agg #[.int .i64 2, .string ⟨#[]⟩, .string ⟨Z.toArray⟩] := by rw [← hZ]; rfl
  rw [hkz] at hnone
  clear h ho hZ hx hr h2 h1 hkz
  have hpost : ∃ P : Ending → World → Prop, P = fun e w' => Below w.heap.size w w' ∧ (if rc = 0 then ∃ p, e = .returned (.tuple #[.pointer (some ⟨p, 0, none⟩), .int .i64 0]) ∧ w.heap.size ≤ p ∧ StAt w' p b ⟨rsl, rtx, rsm⟩ (!rb) none else e = .returned (.tuple #[.pointer none, .int .i64 (rc : Int)])) := ⟨_, rfl⟩
  obtain ⟨P, hP⟩ := hpost
  rw [← hP]
  have HP := Hd.mk hP
  clear hP
  go_enter Try.func41, Try.ntmps41
  go_wp2_with fail
  refine HL.mono ?_
  rintro e w1 ⟨rfl, hb⟩
  have B1 := Hd.mk hb
  clear hb HL
  obtain ⟨N1, hN1⟩ : ∃ N1, w1.heap.size = N1 := ⟨_, rfl⟩
  have X1 := Hd.mk (blk_new w1 #[.int .i64 xk, .int .i64 xn, .int .i64 xl, .int .i64 xz, .string ⟨xs.toArray⟩] 28 (0, 0) N1 hN1)
  have HN1 := Hd.mk hN1
  clear hN1
  go_wp2_with fail
  refine (hnone _).mono ?_
  rintro e w2 ⟨rfl, hb⟩
  have B2 : Hd (Below w.heap.size w w2) := ⟨(B1.out.alloc B1.out.size _).trans (hb.mono (by rw [sz_alloc]; have := B1.out.size; omega))⟩
  have X2 := Hd.mk (blk_below X1.out hb (blk_lt X1.out))
  rw [HN1.out]
  clear hb hnone X1
  have hx : ∀ o, (w2.alloc o).cell? ⟨N1, 0, none⟩ = some (.int .i64 xk) ∧ (w2.alloc o).cell? ⟨N1, 1, none⟩ = some (.int .i64 xn) ∧ (w2.alloc o).cell? ⟨N1, 2, none⟩ = some (.int .i64 xl) ∧ (w2.alloc o).cell? ⟨N1, 3, none⟩ = some (.int .i64 xz) ∧ (w2.alloc o).cell? ⟨N1, 4, none⟩ = some (.string ⟨xs.toArray⟩) := fun o =>
    ⟨blk_cell (blk_alloc X2.out o) 0, blk_cell (blk_alloc X2.out o) 1, blk_cell (blk_alloc X2.out o) 2, blk_cell (blk_alloc X2.out o) 3, blk_cell (blk_alloc X2.out o) 4⟩
  have x0 := fun o => (hx o).1
  have x1 := fun o => (hx o).2.1
  have x2 := fun o => (hx o).2.2.1
  have x3 := fun o => (hx o).2.2.2.1
  have x4 := fun o => (hx o).2.2.2.2
  clear hx
  obtain ⟨N2, hN2⟩ : ∃ N2, w2.heap.size = N2 := ⟨_, rfl⟩
  have S2 := Hd.mk (blk_new w2 #[.int .i64 2, .string ⟨#[]⟩, .string ⟨Z.toArray⟩, .pointer (some ⟨b, 0, none⟩), .bool false, .pointer none] 93 (0, 0) N2 hN2)
  have HN2 := Hd.mk hN2
  have HB2 : Hd (∀ o, Below w.heap.size w (w2.alloc o)) := ⟨fun o => B2.out.alloc B2.out.size o⟩
  clear hN2
  go_wp2_with fail
  refine (HR _ (HB2.out _)).mono ?_
  rintro e w3 ⟨rfl, hb⟩
  have B3 : Hd (Below w.heap.size w w3) := ⟨(HB2.out _).trans (hb.mono (HB2.out _).size)⟩
  have S3 := Hd.mk (blk_below S2.out hb (blk_lt S2.out))
  rw [HN2.out]
  clear hb HR x0 x1 x2 x3 x4 S2
  by_cases hc : rc = 0
  · subst hc
    obtain ⟨N3, hN3⟩ : ∃ N3, w3.heap.size = N3 := ⟨_, rfl⟩
    have hlt : N2 < N3 := by rw [← hN3]; exact blk_lt S3.out
    have d0 : ∀ o, (w3.alloc o).cell? ⟨N2, 0, none⟩ = some (.int .i64 2) := fun o => blk_cell (blk_alloc S3.out o) 0
    have f0 : ∀ o, (w3.alloc o).frozen? ⟨N2, 0, none⟩ = false := fun o => blk_free (blk_alloc S3.out o) 0
    have d1 : ∀ v0 o, ((w3.setCell ⟨N2, 0, none⟩ v0).alloc o).cell? ⟨N2, 1, none⟩ = some (.string ⟨#[]⟩) := fun v0 o => blk_cell (blk_alloc (blk_set S3.out 0 v0) o) 1
    have f1 : ∀ v0 o, ((w3.setCell ⟨N2, 0, none⟩ v0).alloc o).frozen? ⟨N2, 1, none⟩ = false := fun v0 o => blk_free (blk_alloc (blk_set S3.out 0 v0) o) 1
    have d2 : ∀ v0 v1 o, (((w3.setCell ⟨N2, 0, none⟩ v0).setCell ⟨N2, 1, none⟩ v1).alloc o).cell? ⟨N2, 2, none⟩ = some (.string ⟨Z.toArray⟩) := fun v0 v1 o => blk_cell (blk_alloc (blk_set (blk_set S3.out 0 v0) 1 v1) o) 2
    have f2 : ∀ v0 v1 o, (((w3.setCell ⟨N2, 0, none⟩ v0).setCell ⟨N2, 1, none⟩ v1).alloc o).frozen? ⟨N2, 2, none⟩ = false := fun v0 v1 o => blk_free (blk_alloc (blk_set (blk_set S3.out 0 v0) 1 v1) o) 2
    have d4 : ∀ v0 v1 v2 o, ((((w3.setCell ⟨N2, 0, none⟩ v0).setCell ⟨N2, 1, none⟩ v1).setCell ⟨N2, 2, none⟩ v2).alloc o).cell? ⟨N2, 4, none⟩ = some (.bool false) := fun v0 v1 v2 o => blk_cell (blk_alloc (blk_set (blk_set (blk_set S3.out 0 v0) 1 v1) 2 v2) o) 4
    have f4 : ∀ v0 v1 v2 o, ((((w3.setCell ⟨N2, 0, none⟩ v0).setCell ⟨N2, 1, none⟩ v1).setCell ⟨N2, 2, none⟩ v2).alloc o).frozen? ⟨N2, 4, none⟩ = false := fun v0 v1 v2 o => blk_free (blk_alloc (blk_set (blk_set (blk_set S3.out 0 v0) 1 v1) 2 v2) o) 4
    have hB3 : Hd (∀ v0 v1 v2 v4 o, Below w.heap.size w (((((w3.setCell ⟨N2, 0, none⟩ v0).setCell ⟨N2, 1, none⟩ v1).setCell ⟨N2, 2, none⟩ v2).setCell ⟨N2, 4, none⟩ v4).alloc o)) := ⟨fun v0 v1 v2 v4 o =>
      have hle : w.heap.size ≤ N2 := by rw [← HN2.out]; exact B2.out.size
      have h : Below w.heap.size w ((((w3.setCell ⟨N2, 0, none⟩ v0).setCell ⟨N2, 1, none⟩ v1).setCell ⟨N2, 2, none⟩ v2).setCell ⟨N2, 4, none⟩ v4) := (((B3.out.setCell (p := ⟨N2, 0, none⟩) hle _).setCell (p := ⟨N2, 1, none⟩) hle _).setCell (p := ⟨N2, 2, none⟩) hle _).setCell (p := ⟨N2, 4, none⟩) hle _
      h.alloc h.size o⟩
    have hS3 : Hd (∀ o, StAt (((((w3.setCell ⟨N2, 0, none⟩ (.int .i64 rsl)).setCell ⟨N2, 1, none⟩ (.string ⟨rtx.toArray⟩)).setCell ⟨N2, 2, none⟩ (.string ⟨rsm.toArray⟩)).setCell ⟨N2, 4, none⟩ (.bool (!rb))).alloc o) N2 b ⟨rsl, rtx, rsm⟩ (!rb) none) := ⟨fun o => by
      refine ⟨?_, fun q k' e => by cases e⟩
      have h := blk_alloc (blk_set (blk_set (blk_set (blk_set S3.out 0 (.int .i64 rsl)) 1 (.string ⟨rtx.toArray⟩)) 2 (.string ⟨rsm.toArray⟩)) 4 (.bool (!rb))) o
      rw [h]
      rfl⟩
    have hle : Hd (w.heap.size ≤ N2) := ⟨by rw [← HN2.out]; exact B2.out.size⟩
    go_wp2_with fail
    first | go_ret2 | skip
    rw [HP.out]
    refine ⟨hB3.out _ _ _ _ _, ?_⟩
    rw [if_pos trivial]
    exact ⟨N2, rfl, hle.out, hS3.out _⟩
  · have hc1 : ((rc : Int) != 0) = true := by rw [bne_iff_ne]; omega
    go_wp2_with fail
    first | go_ret2 | skip
    rw [HP.out]
    refine ⟨B3.out.alloc B3.out.size _, ?_⟩
    rw [if_neg hc]
    rfl
end Go.Proofs.Ytkdakmddlkgjkaa
