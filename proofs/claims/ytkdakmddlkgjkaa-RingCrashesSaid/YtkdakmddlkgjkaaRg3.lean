import Derived.Outline
import Derived.Deep.DeepCutAuto
import Derived.Test.YtkdakmddlkgjkaaRg2
open Go.RowKit Go.Lib
namespace Go.Proofs.Ytkdakmddlkgjkaa
set_option maxRecDepth 100000
open Sha
theorem ebuild_c (e : En) (w : World) : Calls Try.prog 14 #[ev e] w fun r w' => r = .returned (.tuple #[.string ⟨((build e).getD []).toArray⟩, .int .i64 (if e.right then 0 else 1)]) ∧ Below w.heap.size w w' := by
  unfold build
  by_cases h : e.right = true
  · rw [if_pos h, if_pos h]; exact ebuild_yes e h w
  · rw [if_neg h, if_neg h]; exact ebuild_no e (by simpa using h) w
/-- What Parse answers. -/
def pv (o : Option En) : Value := .tuple #[ev (o.getD E0), .bool o.isSome]
set_option maxHeartbeats 1000000 in
theorem eparse_len (s : List UInt8) (hs : s.length ≠ 64) (w : World) : Calls Try.prog 17 #[.string ⟨s.toArray⟩] w fun r w' => r = .returned (pv (parse s)) ∧ Below w.heap.size w w' := by
  have hp : parse s = none := by unfold parse; rw [if_neg fun hc => hs hc.1]
  rw [hp]
  have hl1 : ((s.length : Int) != 64) = true := by rw [bne_iff_ne]; omega
  have hb0 : Hd (∀ o, Below w.heap.size w (w.alloc o)) := ⟨fun o => (Below.refl _ _).alloc (Nat.le_refl _) _⟩
  clear hp hs
  go_enter Try.func17, Try.ntmps17
  go_wp2
  refine bodyPost_ret (v := .tuple #[.agg #[.int .i64 0, .int .i64 0, .int .i64 0, .int .i64 0, .string ⟨#[]⟩], .bool false]) (by simp [results, Try.results17, go_sem]) rfl ⟨rfl, hb0.out _⟩
set_option maxHeartbeats 1000000 in
theorem eparse_64 (s : List UInt8) (hs : s.length = 64) (w : World) : Calls Try.prog 17 #[.string ⟨s.toArray⟩] w fun r w' => r = .returned (pv (parse s)) ∧ Below w.heap.size w w' := by
  have hl1 : ((s.length : Int) != 64) = false := by rw [bne_eq_false_iff_eq]; omega
  obtain ⟨k, n, sl, sz, sum, hg⟩ : ∃ k n sl sz : Nat, ∃ sum, guess s = ⟨k, n, sl, sz, sum⟩ := ⟨_, _, _, _, _, rfl⟩
  have hb : s.length < 9223372036854775808 := by omega
  have g1 := fun w => rget_c s 2 1 (.inl rfl) (by decide) (by omega) hb w
  have g2 := fun w => rget_c s 4 4 (.inr (.inr (.inl rfl))) (by decide) (by omega) hb w
  have g3 := fun w => rget_c s 3 1 (.inl rfl) (by decide) (by omega) hb w
  have g4 := fun w => rget_c s 8 4 (.inr (.inr (.inl rfl))) (by decide) (by omega) hb w
  simp only [guess, En.mk.injEq, Int.natCast_inj] at hg
  obtain ⟨e1, e2, e3, e4, e5⟩ := hg
  rw [e1] at g1
  rw [e2] at g2
  rw [e3] at g3
  rw [e4] at g4
  have hsum : ({ data := s.toArray } : ByteArray).extract 12 44 = ⟨sum.toArray⟩ := by
    rw [← e5]
    apply ByteArray.ext
    simp [List.extract_eq_take_drop]
  have h44 : (44 : Int) ≤ (s.length : Int) := by omega
  have hG : Hd (guess s = ⟨k, n, sl, sz, sum⟩) := ⟨by simp [guess, e1, e2, e3, e4, e5]⟩
  have HS := Hd.mk hs
  clear e1 e2 e3 e4 e5 hb hs
  change ∀ w, Calls Try.prog 57 #[.string ⟨s.toArray⟩, .int .i64 2, .int .i64 1] w fun e w' => e = .returned (.int .i64 (k : Int)) ∧ w = w' at g1
  change ∀ w, Calls Try.prog 57 #[.string ⟨s.toArray⟩, .int .i64 4, .int .i64 4] w fun e w' => e = .returned (.int .i64 (n : Int)) ∧ w = w' at g2
  change ∀ w, Calls Try.prog 57 #[.string ⟨s.toArray⟩, .int .i64 3, .int .i64 1] w fun e w' => e = .returned (.int .i64 (sl : Int)) ∧ w = w' at g3
  change ∀ w, Calls Try.prog 57 #[.string ⟨s.toArray⟩, .int .i64 8, .int .i64 4] w fun e w' => e = .returned (.int .i64 (sz : Int)) ∧ w = w' at g4
  have hbE : ∀ w, Calls Try.prog 14 #[.agg #[.int .i64 (k : Int), .int .i64 (n : Int), .int .i64 (sl : Int), .int .i64 (sz : Int), .string ⟨sum.toArray⟩]] w fun r w' => r = .returned (.tuple #[.string ⟨((build ⟨k, n, sl, sz, sum⟩).getD []).toArray⟩, .int .i64 (if (En.mk k n sl sz sum).right then 0 else 1)]) ∧ Below w.heap.size w w' := fun w => ebuild_c ⟨k, n, sl, sz, sum⟩ w
  obtain ⟨N, hN⟩ : ∃ N, w.heap.size = N := ⟨_, rfl⟩
  have HN := Hd.mk hN
  clear hN
  have HPS : Hd (parse s = if (En.mk k n sl sz sum).right = true ∧ (build ⟨k, n, sl, sz, sum⟩).getD [] = s then some ⟨k, n, sl, sz, sum⟩ else none) := ⟨by
    unfold parse
    rw [hG.out]
    by_cases hr : (En.mk k n sl sz sum).right = true
    · unfold build
      rw [if_pos hr]
      simp only [Option.getD_some, Option.some.injEq]
      by_cases hx : En.blk ⟨k, n, sl, sz, sum⟩ = s
      · rw [if_pos ⟨HS.out, hx⟩, if_pos ⟨hr, hx⟩]
      · rw [if_neg fun hc => hx hc.2, if_neg fun hc => hx hc.2]
    · unfold build
      rw [if_neg hr, if_neg (by intro hc; cases hc.2), if_neg fun hc => hr hc.1]⟩
  rw [HPS.out]
  obtain ⟨q, hq⟩ : ∃ q, (En.mk k n sl sz sum).right = q := ⟨_, rfl⟩
  obtain ⟨b, hbb⟩ : ∃ b, (build ⟨k, n, sl, sz, sum⟩).getD [] = b := ⟨_, rfl⟩
  rw [hq, hbb]
  simp only [hq, hbb] at hbE
  obtain ⟨o, ho⟩ : ∃ o, (if q = true ∧ b = s then some (En.mk k n sl sz sum) else none) = o := ⟨_, rfl⟩
  rw [ho]
  have HO := Hd.mk ho
  clear hq hbb HPS hG ho
  go_enter Try.func17, Try.ntmps17
  go_upto_region 3 with fail
  rw [HN.out]
  go_cut [4] (fun s4 wx => s4 = .pointer (some ⟨N + 1, 0, none⟩) ∧ wx = ((w.alloc (.cells #[.int .i64 0, .int .i64 0, .int .i64 0, .int .i64 0, .string ⟨#[]⟩] 28 (0, 0))).alloc (.cells #[.int .i64 (k : Int), .int .i64 (n : Int), .int .i64 (sl : Int), .int .i64 (sz : Int), .string ⟨sum.toArray⟩] 28 (0, 0))).drew)
  case first =>
    go_region_held3 (fun _ => True) (exact trivial) (first | (go_at_call 57; first | ((with_reducible refine (g1 _).mono ?_); rintro e w' ⟨rfl, rfl⟩) | ((with_reducible refine (g2 _).mono ?_); rintro e w' ⟨rfl, rfl⟩) | ((with_reducible refine (g3 _).mono ?_); rintro e w' ⟨rfl, rfl⟩) | ((with_reducible refine (g4 _).mono ?_); rintro e w' ⟨rfl, rfl⟩)))
    all_goals (go_wp2_with fail; go_meet)
    all_goals (case rel => exact ⟨by rw [HN.out], rfl⟩)
  case rest =>
    obtain ⟨rfl, hw⟩ := hcut
    have hb1 : Hd (Below w.heap.size w wc) := ⟨by rw [hw]; exact (((Below.refl _ _).alloc (Nat.le_refl _) _).alloc (by rw [sz_alloc]; omega) _).drew⟩
    have hk1 : wc.heap[N + 1]? = some (.cells #[.int .i64 (k : Int), .int .i64 (n : Int), .int .i64 (sl : Int), .int .i64 (sz : Int), .string ⟨sum.toArray⟩] 28 (0, 0)) := by
      rw [hw]; exact blk_drew (blk_new _ _ _ _ _ (by rw [sz_alloc, HN.out]))
    have hk0 : wc.heap[N]? = some (.cells #[.int .i64 0, .int .i64 0, .int .i64 0, .int .i64 0, .string ⟨#[]⟩] 28 (0, 0)) := by
      rw [hw]; exact blk_drew (blk_alloc (blk_new _ _ _ _ _ HN.out) _)
    clear hw g1 g2 g3 g4 hsum
    have HK1 := Hd.mk hk1
    have HK0 := Hd.mk hk0
    have c0 := blk_cell hk1 0
    have c1 := blk_cell hk1 1
    have c2 := blk_cell hk1 2
    have c3 := blk_cell hk1 3
    have c4 := blk_cell hk1 4
    simp only [List.getElem?_toArray, List.getElem?_cons_zero, List.getElem?_cons_succ] at c0 c1 c2 c3 c4
    clear hk1 hk0
    go_wp2_with fail
    refine (hbE _).mono ?_
    rintro e w2 ⟨rfl, hb⟩
    have HB2 : Hd (Below w.heap.size w w2) := ⟨hb1.out.trans (hb.mono hb1.out.size)⟩
    have hk1 := blk_below HK1.out hb (blk_lt HK1.out)
    have hk0 := blk_below HK0.out hb (blk_lt HK0.out)
    clear hb hb1 c0 c1 c2 c3 c4 HK1 HK0 hbE
    have c0 := blk_cell hk1 0
    have c1 := blk_cell hk1 1
    have c2 := blk_cell hk1 2
    have c3 := blk_cell hk1 3
    have c4 := blk_cell hk1 4
    have d0 := blk_cell hk0 0
    have d1 := blk_cell hk0 1
    have d2 := blk_cell hk0 2
    have d3 := blk_cell hk0 3
    have d4 := blk_cell hk0 4
    have f0 := blk_free hk0 0
    have f1 := blk_free hk0 1
    have f2 := blk_free hk0 2
    have f3 := blk_free hk0 3
    have f4 := blk_free hk0 4
    simp only [List.getElem?_toArray, List.getElem?_cons_zero, List.getElem?_cons_succ] at c0 c1 c2 c3 c4 d0 d1 d2 d3 d4
    have HK0 := Hd.mk hk0
    clear hk1 hk0
    have hB5 : Hd (∀ x0 x1 x2 x3 x4, Below w.heap.size w (((((w2.setCell ⟨N, 0, none⟩ x0).setCell ⟨N, 1, none⟩ x1).setCell ⟨N, 2, none⟩ x2).setCell ⟨N, 3, none⟩ x3).setCell ⟨N, 4, none⟩ x4)) :=
      ⟨fun x0 x1 x2 x3 x4 => (((((HB2.out.setCell (p := ⟨N, 0, none⟩) (by rw [HN.out]; exact Nat.le_refl _) _).setCell (p := ⟨N, 1, none⟩) (by rw [HN.out]; exact Nat.le_refl _) _).setCell (p := ⟨N, 2, none⟩) (by rw [HN.out]; exact Nat.le_refl _) _).setCell (p := ⟨N, 3, none⟩) (by rw [HN.out]; exact Nat.le_refl _) _).setCell (p := ⟨N, 4, none⟩) (by rw [HN.out]; exact Nat.le_refl _) _)⟩
    cases q with
    | false =>
      go_wp2_with fail
      refine bodyPost_ret (v := .tuple #[.agg #[.int .i64 0, .int .i64 0, .int .i64 0, .int .i64 0, .string ⟨#[]⟩], .bool false]) (by simp [results, Try.results17, go_sem, d0, d1, d2, d3, d4]) rfl ⟨by rw [← HO.out, if_neg (by intro hc; cases hc.1)]; rfl, hB5.out _ _ _ _ _⟩
    | true =>
      by_cases hbs : b = s
      · subst hbs
        go_wp2_with fail
        refine bodyPost_ret (v := .tuple #[.agg #[.int .i64 (k : Int), .int .i64 (n : Int), .int .i64 (sl : Int), .int .i64 (sz : Int), .string ⟨sum.toArray⟩], .bool true]) (by simp [results, Try.results17, go_sem, d0, d1, d2, d3, d4]) rfl ⟨?_, hB5.out _ _ _ _ _⟩
        have ho : o = some ⟨k, n, sl, sz, sum⟩ := by rw [← HO.out]; simp
        rw [ho]; rfl
      · have hne : (b == s) = false := by rw [beq_eq_false_iff_ne]; exact hbs
        have hne2 : (!b == s) = true := by rw [hne]; rfl
        have HBS := Hd.mk hbs
        clear hbs
        go_wp2_with fail
        refine bodyPost_ret (v := .tuple #[.agg #[.int .i64 0, .int .i64 0, .int .i64 0, .int .i64 0, .string ⟨#[]⟩], .bool false]) (by simp [results, Try.results17, go_sem, d0, d1, d2, d3, d4]) rfl ⟨?_, hB5.out _ _ _ _ _⟩
        rw [← HO.out, if_neg fun hc => HBS.out hc.2]; rfl
theorem eparse_c (s : List UInt8) (w : World) : Calls Try.prog 17 #[.string ⟨s.toArray⟩] w fun r w' => r = .returned (pv (parse s)) ∧ Below w.heap.size w w' := by
  by_cases h : s.length = 64
  · exact eparse_64 s h w
  · exact eparse_len s h w
end Go.Proofs.Ytkdakmddlkgjkaa
