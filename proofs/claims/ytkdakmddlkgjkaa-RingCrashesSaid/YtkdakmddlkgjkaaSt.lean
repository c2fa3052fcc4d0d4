import Derived.Outline
import Derived.WalkMore
import Derived.Deep.RegionHeld3
import Derived.Deep.DeepCutAuto
import Derived.Test.YtkdakmddlkgjkaaSr
import Derived.Test.YtkdakmddlkgjkaaRg8
open Go.RowKit Go.Lib
namespace Go.Proofs.Ytkdakmddlkgjkaa
set_option maxRecDepth 100000
open Sha
/-! What package store keeps: plain, and its small functions. -/
structure Kp where
  sl : Int
  tx : List UInt8
  sm : List UInt8
  deriving DecidableEq
def K0 : Kp := ⟨2, [], List.replicate 32 0⟩
def Kz : Kp := ⟨0, [], []⟩
def kcells (k : Kp) : Array Value := #[.int .i64 k.sl, .string ⟨k.tx.toArray⟩, .string ⟨k.sm.toArray⟩]
def kv (k : Kp) : Value := .agg (kcells k)
def Kp.ent (k : Kp) (kind : Int) : En := ⟨kind, 0, k.sl, (k.tx.length : Nat), k.sm⟩
/-- what an entry tells -/
def rdk (D : Ds) (x : En) : Kp × Bool × Nat :=
  if (sread D x.sl x.sz).2 = 7 then (K0, false, 7) else
  if (sread D x.sl x.sz).2 ≠ 0 ∨ sha (sread D x.sl x.sz).1 ≠ x.sum then (K0, false, 0) else (⟨x.sl, (sread D x.sl x.sz).1, x.sum⟩, true, 0)
theorem sread_len {D : Ds} (h : D.ok) (slot size : Int) : (sread D slot size).1.length ≤ 100000 := by
  have hh := h.hi
  unfold sread
  split
  · simp
  · split
    · simp
    · rename_i h1 h2
      split
      · simp
      · have h3 : size ≤ ((bks D * 64 : Nat) : Int) := by omega
        have h4 := List.length_take_le size.toNat (sgets D (8 + slot.toNat * bks D) (cnt size.toNat))
        unfold bks at h3
        show (List.take _ _).length ≤ _
        omega
theorem none_c (w : World) : Calls Try.prog 68 #[] w fun e w' => e = .returned (kv K0) ∧ Below w.heap.size w w' := by
  obtain ⟨Z, hZ⟩ : ∃ Z, List.replicate 32 (0 : UInt8) = Z := ⟨_, rfl⟩
  have hk : kv K0 = .agg #[.int .i64 2, .string ⟨#[]⟩, .string ⟨Z.toArray⟩] := by rw [← hZ]; rfl
  rw [hk]
  have HZ := Hd.mk hZ
  clear hZ hk
  have hb0 : Hd (Below w.heap.size w (w.alloc (.cells #[.int .i64 0, .string ⟨#[]⟩, .string ⟨#[]⟩] 90 (0, 0)))) := ⟨(Below.refl _ _).alloc (Nat.le_refl _) _⟩
  obtain ⟨N, hN⟩ : ∃ N, w.heap.size = N := ⟨_, rfl⟩
  have HN := Hd.mk hN
  have HK0 : Hd ((w.alloc (.cells #[.int .i64 0, .string ⟨#[]⟩, .string ⟨#[]⟩] 90 (0, 0))).heap[N]? = some (.cells #[.int .i64 0, .string ⟨#[]⟩, .string ⟨#[]⟩] 90 (0, 0))) := ⟨blk_new _ _ _ _ _ hN⟩
  clear hN
  go_enter Try.func68, Try.ntmps68
  go_wp2_with (at_make; refine wpList_plain rfl fun K hK => ?_; refine W_makeB 32 _ _ ⟨⟨_, rfl⟩, ⟨_, rfl⟩, by decide⟩ ?_; intro w4 h1 h2; refine hK _ _ ?_; rw [HZ.out, sz_alloc] at h1; have HB4 : Hd (Below w.heap.size w w4) := ⟨hb0.out.grown h2 hb0.out.size (by simp)⟩; have hblk : w4.heap[N]? = some (.cells #[.int .i64 0, .string ⟨#[]⟩, .string ⟨#[]⟩] 90 (0, 0)) := (by rw [h2.block N (blk_lt HK0.out) (by simp)]; exact HK0.out); have hcv := (run_strof 38 h1 Try.underlying38 9 Try.underlying9); clear h1 h2 hK; have d0 := blk_cell hblk 0; have d1 := blk_cell hblk 1; have d2 := blk_cell hblk 2; have f0 := blk_free hblk 0; have f1 := blk_free hblk 1; have f2 := blk_free hblk 2; simp only [List.getElem?_toArray, List.getElem?_cons_zero, List.getElem?_cons_succ] at d0 d1 d2; rw [HN.out])
  refine bodyPost_ret (v := .agg #[.int .i64 2, .string ⟨#[]⟩, .string ⟨Z.toArray⟩]) (by simp [results, Try.results68, go_sem, d0, d1, d2]) rfl ⟨rfl, ((HB4.out.setCell (p := ⟨N, 0, none⟩) (by rw [HN.out]; exact Nat.le_refl _) _).setCell (p := ⟨N, 1, none⟩) (by rw [HN.out]; exact Nat.le_refl _) _).setCell (p := ⟨N, 2, none⟩) (by rw [HN.out]; exact Nat.le_refl _) _⟩
theorem kent_c (k : Kp) (kind : Int) (w : World) (hl : k.tx.length < 9223372036854775808) : Calls Try.prog 73 #[kv k, .int .i64 kind] w fun e w' => e = .returned (ev (k.ent kind)) ∧ Below w.heap.size w w' := by
  obtain ⟨sl, tx, sm⟩ := k
  show Calls Try.prog _ #[.agg #[.int .i64 sl, .string ⟨tx.toArray⟩, .string ⟨sm.toArray⟩], .int .i64 kind] w fun e w' => e = .returned (.agg #[.int .i64 kind, .int .i64 0, .int .i64 sl, .int .i64 (tx.length : Int), .string ⟨sm.toArray⟩]) ∧ Below w.heap.size w w'
  have hb : ∀ o o2, Below w.heap.size w ((w.alloc o).alloc o2) := fun o o2 => ((Below.refl _ _).alloc (Nat.le_refl _) o).alloc (by rw [sz_alloc]; omega) o2
  have HB := Hd.mk hb
  clear hb
  go_enter Try.func73, Try.ntmps73
  go_wp2_with fail
  refine bodyPost_ret (v := .agg #[.int .i64 kind, .int .i64 0, .int .i64 sl, .int .i64 (tx.length : Int), .string ⟨sm.toArray⟩]) (by simp [results, Try.results73, go_sem]) rfl ⟨rfl, HB.out _ _⟩
set_option maxHeartbeats 1000000 in
theorem rdk_c {w : World} {b : Nat} {D : Ds} {F : Nat → Prop} (h : IsDisk w b D F) (x : En) :
    Calls Try.prog 69 #[.pointer (some ⟨b, 0, none⟩), ev x] w fun e w' => e = .returned (.tuple #[kv (rdk D x).1, .bool (rdk D x).2.1, .int .i64 ((rdk D x).2.2 : Nat)]) ∧ Below w.heap.size w w' := by
  obtain ⟨xk, xn, xl, xz, xs⟩ := x
  show Calls Try.prog _ #[.pointer (some ⟨b, 0, none⟩), .agg #[.int .i64 xk, .int .i64 xn, .int .i64 xl, .int .i64 xz, .string ⟨xs.toArray⟩]] w _
  have hb0 : Hd (Below w.heap.size w ((w.alloc (.cells #[.int .i64 xk, .int .i64 xn, .int .i64 xl, .int .i64 xz, .string ⟨xs.toArray⟩] 28 (0, 0))).alloc (.cells #[.int .i64 0, .string ⟨#[]⟩, .string ⟨#[]⟩] 90 (0, 0)))) := ⟨((Below.refl _ _).alloc (Nat.le_refl _) _).alloc (by rw [sz_alloc]; omega) _⟩
  obtain ⟨N, hN⟩ : ∃ N, w.heap.size = N := ⟨_, rfl⟩
  have HN := Hd.mk hN
  have X0 := Hd.mk (blk_alloc (blk_new w #[.int .i64 xk, .int .i64 xn, .int .i64 xl, .int .i64 xz, .string ⟨xs.toArray⟩] 28 (0, 0) N hN) (.cells #[.int .i64 0, .string ⟨#[]⟩, .string ⟨#[]⟩] 90 (0, 0)))
  have Y0 := Hd.mk (blk_new (w.alloc (.cells #[.int .i64 xk, .int .i64 xn, .int .i64 xl, .int .i64 xz, .string ⟨xs.toArray⟩] 28 (0, 0))) #[.int .i64 0, .string ⟨#[]⟩, .string ⟨#[]⟩] 90 (0, 0) (N + 1) (by rw [sz_alloc, hN]))
  have HR := sread_c (h.ext hb0.out) xl xz
  have HLN := Hd.mk (sread_len h.ok xl xz)
  obtain ⟨R, hR⟩ : ∃ R, rdk D ⟨xk, xn, xl, xz, xs⟩ = R := ⟨_, rfl⟩
  rw [hR]
  have HRR : Hd (R = if (sread D xl xz).2 = 7 then (K0, false, 7) else if (sread D xl xz).2 ≠ 0 ∨ sha (sread D xl xz).1 ≠ xs then (K0, false, 0) else (⟨xl, (sread D xl xz).1, xs⟩, true, 0)) := ⟨hR.symm⟩
  obtain ⟨⟨T, c⟩, hp⟩ : ∃ p, sread D xl xz = p := ⟨_, rfl⟩
  rw [hp] at HR HRR HLN
  have HDD := Hd.mk h
  clear hR hp h hN
  go_enter Try.func69, Try.ntmps69
  go_wp2_with fail
  refine HR.mono ?_
  rintro e w1 ⟨rfl, hb⟩
  have B1 : Hd (Below w.heap.size w w1) := ⟨hb0.out.trans (hb.mono hb0.out.size)⟩
  have X1 := Hd.mk (blk_below X0.out hb (blk_lt X0.out))
  have Y1 := Hd.mk (blk_below Y0.out hb (blk_lt Y0.out))
  rw [HN.out]
  clear hb hb0 HR X0 Y0
  obtain ⟨Z, hZ⟩ : ∃ Z, List.replicate 32 (0 : UInt8) = Z := ⟨_, rfl⟩
  have HKZ : Hd (kv K0 = .agg #[.int .i64 2, .string ⟨#[]⟩, .string ⟨Z.toArray⟩]) := ⟨by rw [← hZ]; rfl⟩
  have hnone := none_c
  rw [HKZ.out] at hnone
  clear hZ
  have hx := X1.out
  have x2 := blk_cell hx 2
  have x4 := blk_cell hx 4
  simp only [List.getElem?_toArray, List.getElem?_cons_zero, List.getElem?_cons_succ] at x2 x4
  clear hx
  by_cases h7 : c = 7
  · have e7 : ((c : Int) == 7) = true := by rw [beq_iff_eq]; omega
    clear x2 x4
    have HC7 := Hd.mk h7
    clear h7
    go_wp2_with fail
    refine (hnone _).mono ?_
    rintro e wn ⟨rfl, hb⟩
    have Bn : Hd (Below w.heap.size w wn) := ⟨B1.out.trans (hb.mono B1.out.size)⟩
    have hyn := blk_below Y1.out hb (blk_lt Y1.out)
    clear hb hnone
    have d0 := blk_cell hyn 0
    have d1 := blk_cell hyn 1
    have d2 := blk_cell hyn 2
    have f0 := blk_free hyn 0
    have f1 := blk_free hyn 1
    have f2 := blk_free hyn 2
    simp only [List.getElem?_toArray, List.getElem?_cons_zero, List.getElem?_cons_succ] at d0 d1 d2
    clear hyn
    go_wp2_with fail
    refine bodyPost_ret (v := .tuple #[.agg #[.int .i64 2, .string ⟨#[]⟩, .string ⟨Z.toArray⟩], .bool false, .int .i64 (c : Int)]) (by simp [results, Try.results69, go_sem, d0, d1, d2]) rfl ⟨?_, ((Bn.out.setCell (p := ⟨N + 1, 0, none⟩) (by show _ ≤ N + 1; rw [HN.out]; omega) _).setCell (p := ⟨N + 1, 1, none⟩) (by show _ ≤ N + 1; rw [HN.out]; omega) _).setCell (p := ⟨N + 1, 2, none⟩) (by show _ ≤ N + 1; rw [HN.out]; omega) _⟩
    rw [HRR.out, if_pos HC7.out]
    show _ = Ending.returned (.tuple #[kv K0, _, _])
    rw [HKZ.out, HC7.out]
  have e7 : ((c : Int) == 7) = false := by rw [beq_eq_false_iff_ne]; omega
  by_cases h0 : c = 0
  case neg =>
    have e0 : ((c : Int) != 0) = true := by rw [bne_iff_ne]; omega
    have HC0 := Hd.mk (And.intro h7 h0)
    clear h7 h0 x2 x4
    go_upto_region 4 with fail
    go_quiet (fail)
    all_goals
      go_wp2_with fail
      refine (hnone _).mono ?_
      rintro e wn ⟨rfl, hb⟩
      have Bn : Hd (Below w.heap.size w wn) := ⟨(Go.Proofs.Ytkdakmddlkgjkaa.Below.drewN B1.out nq).trans (hb.mono (Go.Proofs.Ytkdakmddlkgjkaa.Below.drewN B1.out nq).size)⟩
      have hyn := blk_below (show (w1.drewN nq).heap[N + 1]? = _ from Y1.out) hb (blk_lt Y1.out)
      clear hb hnone
      have d0 := blk_cell hyn 0
      have d1 := blk_cell hyn 1
      have d2 := blk_cell hyn 2
      have f0 := blk_free hyn 0
      have f1 := blk_free hyn 1
      have f2 := blk_free hyn 2
      simp only [List.getElem?_toArray, List.getElem?_cons_zero, List.getElem?_cons_succ] at d0 d1 d2
      clear hyn
      go_wp2_with fail
      refine bodyPost_ret (v := .tuple #[.agg #[.int .i64 2, .string ⟨#[]⟩, .string ⟨Z.toArray⟩], .bool false, .int .i64 0]) (by simp [results, Try.results69, go_sem, d0, d1, d2]) rfl ⟨?_, ((Bn.out.setCell (p := ⟨N + 1, 0, none⟩) (by show _ ≤ N + 1; rw [HN.out]; omega) _).setCell (p := ⟨N + 1, 1, none⟩) (by show _ ≤ N + 1; rw [HN.out]; omega) _).setCell (p := ⟨N + 1, 2, none⟩) (by show _ ≤ N + 1; rw [HN.out]; omega) _⟩
      rw [HRR.out, if_neg HC0.out.1, if_pos (.inl HC0.out.2)]
      show _ = Ending.returned (.tuple #[kv K0, _, _])
      rw [HKZ.out]
      rfl
  subst h0
  clear e7 h7
  obtain ⟨Y, hY⟩ : ∃ Y, sha T = Y := ⟨_, rfl⟩
  have hsha : ∀ w, Calls Try.prog 53 #[.string ⟨T.toArray⟩] w fun e w' => e = .returned (.string ⟨Y.toArray⟩) ∧ Below w.heap.size w w' := by
    intro w
    have h1 := of_c ⟨T.toArray⟩ w (by show T.length ≤ _; have := HLN.out; omega)
    rw [show (ByteArray.mk T.toArray).data.toList = T from rfl, hY] at h1
    exact h1
  have HY := Hd.mk hY
  clear hY
  go_upto_region 4 with fail
  go_region_held3 (fun w' => w'.cell? ⟨N, 4, none⟩ = some (.string ⟨xs.toArray⟩)) (first | exact x4 | exact z4)
    (first | (go_at_call 53; refine (hsha _).mono ?_; rintro e w2 ⟨rfl, hb⟩; have hxx := blk_below (blk_drew X1.out) hb (blk_lt X1.out); have z4 := blk_cell hxx 4; simp only [List.getElem?_toArray, List.getElem?_cons_zero, List.getElem?_cons_succ] at z4))
  all_goals
    have B2 : Hd (Below w.heap.size w w2) := ⟨B1.out.drew.trans (hb.mono B1.out.drew.size)⟩
    have X2 := Hd.mk hxx
    have Y2 := Hd.mk (blk_below (blk_drew Y1.out) hb (blk_lt Y1.out))
    clear hb hxx z4 x4 x2 hsha
    by_cases hq : Y = xs
    · have hqq : (Y == xs) = true := by rw [hq]; simp
      have hqn : (!Y == xs) = false := by rw [hqq]; rfl
      simp only [hqn]
      have HQ := Hd.mk hq
      clear hq
      have hx := X2.out
      have x2 := blk_cell hx 2
      have x4 := blk_cell hx 4
      simp only [List.getElem?_toArray, List.getElem?_cons_zero, List.getElem?_cons_succ] at x2 x4
      have hyn := Y2.out
      have d0 := blk_cell hyn 0
      have d1 := blk_cell hyn 1
      have d2 := blk_cell hyn 2
      have f0 := blk_free hyn 0
      have f1 := blk_free hyn 1
      have f2 := blk_free hyn 2
      simp only [List.getElem?_toArray, List.getElem?_cons_zero, List.getElem?_cons_succ] at d0 d1 d2

      clear hyn hx
      go_wp2_with fail
      refine bodyPost_ret (v := .tuple #[.agg #[.int .i64 xl, .string ⟨T.toArray⟩, .string ⟨xs.toArray⟩], .bool true, .int .i64 0]) (by simp [results, Try.results69, go_sem, d0, d1, d2]) rfl ⟨?_, ((B2.out.setCell (p := ⟨N + 1, 0, none⟩) (by show _ ≤ N + 1; rw [HN.out]; omega) _).setCell (p := ⟨N + 1, 1, none⟩) (by show _ ≤ N + 1; rw [HN.out]; omega) _).setCell (p := ⟨N + 1, 2, none⟩) (by show _ ≤ N + 1; rw [HN.out]; omega) _⟩
      rw [HRR.out, if_neg (by decide), if_neg (by rintro (hc | hc); exact hc rfl; exact hc (by show sha T = xs; rw [HY.out, HQ.out]))]
      rfl
    · have hqq : (Y == xs) = false := by rw [beq_eq_false_iff_ne]; exact hq
      have hqn : (!Y == xs) = true := by rw [hqq]; rfl
      simp only [hqn]
      have HQ := Hd.mk hq
      clear hq
      go_wp2_with fail
      refine (hnone _).mono ?_
      rintro e wn ⟨rfl, hb⟩
      have Bn : Hd (Below w.heap.size w wn) := ⟨B2.out.trans (hb.mono B2.out.size)⟩
      have hyn := blk_below Y2.out hb (blk_lt Y2.out)
      clear hb hnone
      have d0 := blk_cell hyn 0
      have d1 := blk_cell hyn 1
      have d2 := blk_cell hyn 2
      have f0 := blk_free hyn 0
      have f1 := blk_free hyn 1
      have f2 := blk_free hyn 2
      simp only [List.getElem?_toArray, List.getElem?_cons_zero, List.getElem?_cons_succ] at d0 d1 d2

      clear hyn
      go_wp2_with fail
      refine bodyPost_ret (v := .tuple #[.agg #[.int .i64 2, .string ⟨#[]⟩, .string ⟨Z.toArray⟩], .bool false, .int .i64 0]) (by simp [results, Try.results69, go_sem, d0, d1, d2]) rfl ⟨?_, ((Bn.out.setCell (p := ⟨N + 1, 0, none⟩) (by show _ ≤ N + 1; rw [HN.out]; omega) _).setCell (p := ⟨N + 1, 1, none⟩) (by show _ ≤ N + 1; rw [HN.out]; omega) _).setCell (p := ⟨N + 1, 2, none⟩) (by show _ ≤ N + 1; rw [HN.out]; omega) _⟩
      rw [HRR.out, if_neg (by decide), if_pos (.inr (by show sha T ≠ xs; rw [HY.out]; exact HQ.out))]
      show _ = Ending.returned (.tuple #[kv K0, _, _])
      rw [HKZ.out]
      rfl
end Go.Proofs.Ytkdakmddlkgjkaa
