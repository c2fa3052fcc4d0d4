import Derived.Outline
import Derived.Test.YtkdakmddlkgjkaaRg5
open Go.RowKit Go.Lib
namespace Go.Proofs.Ytkdakmddlkgjkaa
set_option maxRecDepth 100000
def lastE (D : Ds) : En := ((scan D 8).getLast?).getD E0
theorem newest_eq (D : Ds) : newest D = (lastE D).n := by
  unfold newest lastE
  cases (scan D 8).getLast? <;> rfl
theorem ins_mem {e x : En} : ∀ {l : List En}, x ∈ ins e l → x = e ∨ x ∈ l
  | [], h => by simpa [ins] using h
  | y :: r, h => by
    rw [ins] at h
    split at h
    · rcases List.mem_cons.1 h with h | h
      · exact .inl h
      · exact .inr h
    · rcases List.mem_cons.1 h with h | h
      · exact .inr (by rw [h]; exact List.mem_cons_self)
      · rcases ins_mem h with h | h
        · exact .inl h
        · exact .inr (List.mem_cons_of_mem _ h)
theorem scan_right (D : Ds) : ∀ k, ∀ x ∈ scan D k, x.right = true
  | 0, x, h => by simp [scan] at h
  | k + 1, x, h => by
    rw [scan] at h
    split at h
    · rename_i e he
      split at h
      · rcases ins_mem h with rfl | h
        · exact (of_parse he).1
        · exact scan_right D k x h
      · exact scan_right D k x h
    · exact scan_right D k x h
theorem lastE_bound (D : Ds) : 0 ≤ (lastE D).n ∧ (lastE D).n ≤ 4294967295 := by
  unfold lastE
  cases h : (scan D 8).getLast? with
  | none => decide
  | some e =>
    have := scan_right D 8 e (List.mem_of_getLast? h)
    simp only [En.right, decide_eq_true_eq] at this
    exact ⟨by show 0 ≤ e.n; omega, this.2.2.2.1⟩
/-- What Last answers of a disk. -/
def lastV (D : Ds) : Value := if D.off then .tuple #[ev E0, .bool false, .int .i64 7] else .tuple #[ev (lastE D), .bool (!(scan D 8).isEmpty), .int .i64 0]
section
variable {w w2 : World} {N : Nat} {t : TypeId}
theorem below5 {B : Nat} {w0 : World} (h : Below B w0 w2) (hN : B ≤ N) (x0 x1 x2 x3 x4 : Value) : Below B w0 (((((w2.setCell ⟨N, 0, none⟩ x0).setCell ⟨N, 1, none⟩ x1).setCell ⟨N, 2, none⟩ x2).setCell ⟨N, 3, none⟩ x3).setCell ⟨N, 4, none⟩ x4) :=
  ((((h.setCell (p := ⟨N, 0, none⟩) hN _).setCell (p := ⟨N, 1, none⟩) hN _).setCell (p := ⟨N, 2, none⟩) hN _).setCell (p := ⟨N, 3, none⟩) hN _).setCell (p := ⟨N, 4, none⟩) hN _
end
theorem last_nil (w : World) : Calls Try.prog 22 #[.pointer none] w fun e w' => e = .returned (.tuple #[ev E0, .bool false, .int .i64 16]) ∧ Below w.heap.size w w' := by
  have hb0 : Hd (Below w.heap.size w (w.alloc (.cells #[.int .i64 0, .int .i64 0, .int .i64 0, .int .i64 0, .string ⟨#[]⟩] 28 (0, 0)))) := ⟨(Below.refl _ _).alloc (Nat.le_refl _) _⟩
  go_enter Try.func22, Try.ntmps22
  go_wp2_with fail
  refine (scan_nil _).mono ?_
  rintro e w' ⟨rfl, rfl⟩
  go_wp2_with fail
  refine bodyPost_ret (v := .tuple #[.agg #[.int .i64 0, .int .i64 0, .int .i64 0, .int .i64 0, .string ⟨#[]⟩], .bool false, .int .i64 16]) (by simp [results, Try.results22, go_sem]) rfl ⟨rfl, ?_⟩
  first | exact hb0.out | exact below5 hb0.out (Nat.le_refl _) _ _ _ _ _
set_option maxHeartbeats 1000000 in
theorem last_c {w : World} {b : Nat} {D : Ds} {F : Nat → Prop} (h : IsDisk w b D F) : Calls Try.prog 22 #[.pointer (some ⟨b, 0, none⟩)] w fun e w' => e = .returned (lastV D) ∧ Below w.heap.size w w' := by
  have hb0 : Hd (Below w.heap.size w (w.alloc (.cells #[.int .i64 0, .int .i64 0, .int .i64 0, .int .i64 0, .string ⟨#[]⟩] 28 (0, 0)))) := ⟨(Below.refl _ _).alloc (Nat.le_refl _) _⟩
  have H := Hd.mk h
  unfold lastV
  by_cases ho : D.off = true
  · rw [if_pos ho]
    have hs := scan_off (h.ext hb0.out) ho
    clear h ho
    go_enter Try.func22, Try.ntmps22
    go_wp2_with fail
    refine hs.mono ?_
    rintro e w' ⟨rfl, rfl⟩
    clear hs
    go_wp2_with fail
    refine bodyPost_ret (v := .tuple #[.agg #[.int .i64 0, .int .i64 0, .int .i64 0, .int .i64 0, .string ⟨#[]⟩], .bool false, .int .i64 7]) (by simp [results, Try.results22, go_sem]) rfl ⟨rfl, ?_⟩
    first | exact hb0.out | exact below5 hb0.out (Nat.le_refl _) _ _ _ _ _
  · rw [if_neg ho]
    have hs := scan_c (h.ext hb0.out) (by simpa using ho)
    clear h ho
    obtain ⟨N, hN⟩ : ∃ N, w.heap.size = N := ⟨_, rfl⟩
    have HN := Hd.mk hN
    have hLl := scan_len D 8
    obtain ⟨L, hL⟩ : ∃ L, scan D 8 = L := ⟨_, rfl⟩
    rw [hL] at hs hLl
    obtain ⟨V, hV⟩ : ∃ V, Value.tuple #[ev (lastE D), .bool (!(scan D 8).isEmpty), .int .i64 0] = V := ⟨_, rfl⟩
    rw [hL] at hV
    rw [hL, hV]
    have HV := Hd.mk hV
    have HL := Hd.mk hL
    clear hN hL hV
    go_enter Try.func22, Try.ntmps22
    go_wp2_with fail
    refine hs.mono ?_
    rintro e w2 ⟨v, rfl, hown, hb⟩
    clear hs
    have hbk := blk_below (blk_new w #[.int .i64 0, .int .i64 0, .int .i64 0, .int .i64 0, .string ⟨#[]⟩] 28 (0, 0) _ rfl) hb (by rw [sz_alloc]; omega)
    have HB2 : Hd (Below w.heap.size w w2) := ⟨hb0.out.trans (hb.mono hb0.out.size)⟩
    rw [HN.out] at hbk ⊢
    have d0 := blk_cell hbk 0
    have d1 := blk_cell hbk 1
    have d2 := blk_cell hbk 2
    have d3 := blk_cell hbk 3
    have d4 := blk_cell hbk 4
    have f0 := blk_free hbk 0
    have f1 := blk_free hbk 1
    have f2 := blk_free hbk 2
    have f3 := blk_free hbk 3
    have f4 := blk_free hbk 4
    simp only [List.getElem?_toArray, List.getElem?_cons_zero, List.getElem?_cons_succ] at d0 d1 d2 d3 d4
    have hblt := blk_lt hbk
    clear hbk hb hb0
    by_cases h0 : 0 < L.length
    · obtain ⟨g, c, hv, hg1, hg2⟩ := hown.some h0
      subst hv
      have hk : L.length - 1 < L.length := by omega
      have q := hown.cells _ hk
      obtain ⟨x, hx⟩ : ∃ x, L[L.length - 1] = x := ⟨_, rfl⟩
      simp only [hx] at q
      have hlast : V = .tuple #[ev x, .bool true, .int .i64 0] := by
        have h1 : lastE D = x := by
          unfold lastE
          rw [HL.out, List.getLast?_eq_getElem?, List.getElem?_eq_getElem hk, hx]; rfl
        have hem : (!L.isEmpty) = true := by cases L with | nil => simp at h0 | cons => rfl
        rw [← HV.out, h1, hem]
      subst hlast
      clear HV
      obtain ⟨xk, xn, xsl, xsz, xsum⟩ := x
      have q0 := q 0 (by decide)
      have q1 := q 1 (by decide)
      have q2 := q 2 (by decide)
      have q3 := q 3 (by decide)
      have q4 := q 4 (by decide)
      simp only [ecell, List.getElem?_cons_zero, List.getElem?_cons_succ, Nat.add_zero] at q0 q1 q2 q3 q4
      have hl0 : ((L.length : Int) == 0) = false := by rw [beq_eq_false_iff_ne]; omega
      have hl1 : (0 : Int) ≤ (L.length : Int) - 1 := by omega
      have hl2 : (L.length : Int) - 1 < (L.length : Int) := by omega
      have hl3 : ((L.length : Int) - 1).toNat = L.length - 1 := by omega
      clear q hx hown
      go_wp2_with fail
      refine bodyPost_ret (v := .tuple #[.agg #[.int .i64 xk, .int .i64 xn, .int .i64 xsl, .int .i64 xsz, .string ⟨xsum.toArray⟩], .bool true, .int .i64 0]) (by simp [results, Try.results22, go_sem, d0, d1, d2, d3, d4]) rfl ⟨rfl, below5 HB2.out (by rw [HN.out]; exact Nat.le_refl _) _ _ _ _ _⟩
    · have hn : L = [] := List.eq_nil_of_length_eq_zero (by omega)
      subst hn
      have hlast : V = .tuple #[ev E0, .bool false, .int .i64 0] := by
        have h1 : lastE D = E0 := by unfold lastE; rw [HL.out]; rfl
        rw [← HV.out, h1]; rfl
      subst hlast
      obtain ⟨oa, oc, hv, _⟩ := hown.form
      subst hv
      clear HV hown
      go_wp2_with fail
      refine bodyPost_ret (v := .tuple #[.agg #[.int .i64 0, .int .i64 0, .int .i64 0, .int .i64 0, .string ⟨#[]⟩], .bool false, .int .i64 0]) (by simp [results, Try.results22, go_sem, d0, d1, d2, d3, d4]) rfl ⟨rfl, below5 HB2.out (by rw [HN.out]; exact Nat.le_refl _) _ _ _ _ _⟩
end Go.Proofs.Ytkdakmddlkgjkaa
