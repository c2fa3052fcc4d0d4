import Derived.Outline
import Derived.WalkMore
import Derived.Deep.LoopGhost
import Derived.Test.YtkdakmddlkgjkaaRg4
open Go.RowKit Go.Lib
namespace Go.Proofs.Ytkdakmddlkgjkaa
set_option maxRecDepth 100000
theorem scan_nil (w : World) : Calls Try.prog 21 #[.pointer none] w fun e w' => e = .returned (.tuple #[.slice none 0 0, .int .i64 16]) ∧ w = w' := by
  go_enter Try.func21, Try.ntmps21
  go_wp2_with fail
  go_step3
  go_wp2_with fail
  go_step3
  go_wp2_with fail
  refine wp_loop_rounds 1 ?_
  rw [Go.rounds_succ]
  go_wp2_with fail
  refine (read_nil w 0).mono ?_
  rintro e w' ⟨rfl, rfl⟩
  go_wp2_with fail
  try rw [Exit.noGoto_ret]
  go_ret2
  exact ⟨rfl, rfl⟩
theorem scan_off {w : World} {b : Nat} {D : Ds} {F : Nat → Prop} (h : IsDisk w b D F) (ho : D.off = true) : Calls Try.prog 21 #[.pointer (some ⟨b, 0, none⟩)] w fun e w' => e = .returned (.tuple #[.slice none 0 0, .int .i64 7]) ∧ w = w' := by
  have hr := read_off h ho 0
  clear ho
  go_enter Try.func21, Try.ntmps21
  go_wp2_with fail
  go_step3
  go_wp2_with fail
  go_step3
  go_wp2_with fail
  refine wp_loop_rounds 1 ?_
  rw [Go.rounds_succ]
  go_wp2_with fail
  refine hr.mono ?_
  rintro e w' ⟨rfl, rfl⟩
  go_wp2_with fail
  try rw [Exit.noGoto_ret]
  go_ret2
  exact ⟨rfl, rfl⟩
theorem ins_len (e : En) (l : List En) : (ins e l).length = l.length + 1 := by
  induction l with
  | nil => rfl
  | cons x r ih => rw [ins]; split <;> simp [ih]
theorem scan_len (D : Ds) (k : Nat) : (scan D k).length ≤ k := by
  induction k with
  | zero => simp [scan]
  | succ k ih =>
    rw [scan]
    split
    · split
      · rw [ins_len]; omega
      · omega
    · omega
/-- .. behind so many that are not greater, one that is. -/
theorem ins_at (e : En) : ∀ (l : List En) (j : Nat) (h : j < l.length), (∀ x ∈ l.take j, ¬ x.n > e.n) → l[j].n > e.n → ins e l = l.take j ++ (e :: l.drop j)
  | x :: r, 0, _, _, h2 => by rw [ins, if_pos (show x.n > e.n from h2)]; rfl
  | x :: r, j + 1, h, h1, h2 => by
    rw [ins, if_neg (h1 x (by simp)), ins_at e r j (by simpa using h) (fun y hy => h1 y (by simp [hy])) h2]; rfl
theorem ins_end (e : En) : ∀ l : List En, (∀ x ∈ l, ¬ x.n > e.n) → ins e l = l ++ [e]
  | [], _ => rfl
  | x :: r, h => by rw [ins, if_neg (h x (by simp)), ins_end e r fun y hy => h y (by simp [hy])]; rfl
theorem scan_none {D : Ds} {k : Nat} (h : parse (D.get k) = none) : scan D (k + 1) = scan D k := by rw [scan, h]
theorem scan_other {D : Ds} {k : Nat} {e : En} (h : parse (D.get k) = some e) (hn : ¬ e.n % 8 = k) : scan D (k + 1) = scan D k := by rw [scan, h]; exact if_neg hn
theorem scan_one {D : Ds} {k : Nat} {e : En} (h : parse (D.get k) = some e) (hn : e.n % 8 = k) : scan D (k + 1) = ins e (scan D k) := by rw [scan, h]; exact if_pos hn
/-- In the inner loop: what was found lies in v, the one at hand in block N. -/
structure ScanMid (w wy : World) (v : Value) (L : List En) (N : Nat) (e : En) : Prop where
  ow : OwnE wy w.heap.size v L
  bx : wy.heap[N]? = some (.cells (ecell e).toArray 28 (0, 0))
  bl : Below w.heap.size w wy
theorem ScanMid.ext {w wy w1 : World} {v : Value} {L : List En} {N : Nat} {e : En} (h : ScanMid w wy v L N e) (hb : Below wy.heap.size wy w1) : ScanMid w w1 v L N e :=
  ⟨h.ow.below hb, by rw [hb.block N (blk_lt h.bx)]; exact h.bx, h.bl.trans (hb.mono h.bl.size)⟩
theorem ecells_single (e : En) : ecells [e] = ecell e := by simp [ecells]
theorem add0 (g j : Nat) : (⟨g, 0, none⟩ : Addr).add j = ⟨g, j, none⟩ := by unfold Addr.add; split <;> simp_all
theorem OwnE.below {w w' : World} {base : Nat} {v : Value} {L : List En} (h : OwnE w base v L) (hb : Below w.heap.size w w') : OwnE w' base v L := Own.below h hb
theorem OwnE.mono {w : World} {base b : Nat} {v : Value} {L : List En} (h : OwnE w base v L) (hb : b ≤ base) : OwnE w b v L := Own.mono h hb
theorem OwnE.lit (w : World) (base N : Nat) (e : En) (hN : w.heap.size = N) (hb : base ≤ N) : OwnE (w.alloc (.cells (ecell e).toArray 28 (0, 0))) base (.slice (some ⟨N, 0, none⟩) 1 1) [e] := by
  refine ⟨by rw [ecells_single]; rfl, .inr ⟨N, 1, (ecell e).toArray, (0, 0), rfl, hb, blk_new _ _ _ _ _ hN, .inl rfl, Nat.le_refl _, by simp [maxLen], Nat.le_refl _, ?_⟩⟩
  rw [ecells_single]; rfl
/-- The cells of a slice from an entry on. -/
theorem OwnE.tailCells {w : World} {base g n c : Nat} {L : List En} (h : OwnE w base (.slice (some ⟨g, 0, none⟩) n c) L) (j : Nat) (_hj : j ≤ L.length) : ∀ i u, (ecells (L.drop j))[i]? = some u → w.cell? ((⟨g, j * 5, none⟩ : Addr).add i) = some u := by
  intro i u hi
  have hn : n = L.length := by
    rcases h.2 with ⟨he, h0⟩ | ⟨g, cap, cur, fr, he, _⟩ <;> cases he <;> rfl
  subst hn
  have hadd : (⟨g, j * 5, none⟩ : Addr).add i = ⟨g, j * 5 + i, none⟩ := by unfold Addr.add; split <;> simp_all
  rw [← ecells_drop, List.getElem?_drop] at hi
  have hlt : j * 5 + i < L.length * 5 := by
    rcases Nat.lt_or_ge (j * 5 + i) (L.length * 5) with h1 | h1
    · exact h1
    · rw [List.getElem?_eq_none (by rw [ecells_len]; exact h1)] at hi; cases hi
  rw [hadd, Own.cell h _ hlt]
  exact hi
theorem OwnE.allCells {w : World} {base g n c : Nat} {L : List En} (h : OwnE w base (.slice (some ⟨g, 0, none⟩) n c) L) : ∀ i u, (ecells L)[i]? = some u → w.cell? ((⟨g, 0, none⟩ : Addr).add i) = some u := by
  have := h.tailCells 0 (Nat.zero_le _)
  rwa [Nat.zero_mul, List.drop_zero] at this
theorem OwnE.some {w : World} {base : Nat} {v : Value} {L : List En} (h : OwnE w base v L) (h0 : 0 < L.length) : ∃ g c, v = .slice (some ⟨g, 0, none⟩) L.length c ∧ base ≤ g ∧ g < w.heap.size := by
  obtain ⟨a, c, hv, _, h1, h2⟩ := h.form
  cases a with
  | none => have := (h1 rfl).1; omega
  | some x => obtain ⟨g, hg, r⟩ := h2 x rfl; exact ⟨g, c, by rw [hv, hg], r⟩
set_option maxHeartbeats 2000000 in
theorem scan_c {w : World} {b : Nat} {D : Ds} {F : Nat → Prop} (h : IsDisk w b D F) (ho : D.off = false) :
    Calls Try.prog 21 #[.pointer (some ⟨b, 0, none⟩)] w fun r w' => ∃ v, r = .returned (.tuple #[v, .int .i64 0]) ∧ OwnE w' w.heap.size v (scan D 8) ∧ Below w.heap.size w w' := by
  have H := Hd.mk h
  have HO := Hd.mk ho
  have hlo := h.ok.lo
  clear h ho
  go_enter Try.func21, Try.ntmps21
  go_wp2_with fail
  go_step3
  go_wp2_with fail
  go_step3
  go_wp2_with fail
  go_loopg [4, 12] 8 (fun g v i wr => ∃ k : Nat, k + g = 8 ∧ i = .int .i64 (k : Int) ∧ Hd (OwnE wr w.heap.size v (scan D k)) ∧ Hd (Below w.heap.size w wr))
  case atStart => exact ⟨0, by omega, rfl, ⟨Own.nil _ _ _ _⟩, ⟨Below.refl _ _⟩⟩
  case round =>
    obtain ⟨k, hkg, rfl, HE, HB⟩ := hrel
    cases gk with
    | zero =>
      have hkz : ¬ ((k : Int) < 8) := by omega
      have hk8 : k = 8 := by omega
      have HE8 : Hd (OwnE wr w.heap.size u4 (scan D 8)) := ⟨by rw [← hk8]; exact HE.out⟩
      clear hk8 HE
      go_wp2_with fail
      try rw [Exit.noGoto_ret]
      go_ret2
      exact ⟨_, rfl, HE8.out, HB.out⟩
    | succ g =>
      have hkz : (k : Int) < 8 := by omega
      have hr := read_c (H.out.ext HB.out) HO.out k (by omega)
      obtain ⟨s, hs⟩ : ∃ s, D.get k = s := ⟨_, rfl⟩
      rw [hs] at hr
      have hpc := fun w => eparse_c s w
      have HS := Hd.mk hs
      clear hs
      cases hp : parse s with
      | none =>
        have HN : Hd (scan D (k + 1) = scan D k) := ⟨scan_none (by rw [HS.out]; exact hp)⟩
        rw [hp] at hpc
        clear hp
        change ∀ w, Calls Try.prog 17 #[.string ⟨s.toArray⟩] w fun r w' => r = .returned (.tuple #[.agg #[.int .i64 0, .int .i64 0, .int .i64 0, .int .i64 0, .string ⟨#[]⟩], .bool false]) ∧ Below w.heap.size w w' at hpc
        go_wp2_with fail
        refine hr.mono ?_
        rintro e w1 ⟨rfl, rfl⟩
        clear hr
        go_wp2_with fail
        refine (hpc _).mono ?_
        rintro e w2 ⟨rfl, hb⟩
        have HB2 : Hd (Below w.heap.size w w2) := ⟨HB.out.trans (hb.mono HB.out.size)⟩
        have HE2 : Hd (OwnE w2 w.heap.size u4 (scan D (k + 1))) := ⟨by rw [HN.out]; exact HE.out.below hb⟩
        clear hb hpc
        go_wp2_with fail
        go_roundg g
        case measure => omega
        case rel => exact ⟨k + 1, by omega, by go_num, ⟨HE2.out.alloc _⟩, ⟨HB2.out.alloc HB2.out.size _⟩⟩
      | some e =>
        obtain ⟨hright, _, _, _⟩ := of_parse hp
        rw [hp] at hpc
        have HSC := Hd.mk (fun hn => scan_other (D := D) (k := k) (e := e) (by rw [HS.out]; exact hp) hn)
        have HSO := Hd.mk (fun hn => scan_one (D := D) (k := k) (e := e) (by rw [HS.out]; exact hp) hn)
        clear hp
        obtain ⟨ek, en, esl, esz, esum⟩ := e
        simp only [En.right, decide_eq_true_eq] at hright
        obtain ⟨_, _, hn1, hn2, _⟩ := hright
        change ∀ w, Calls Try.prog 17 #[.string ⟨s.toArray⟩] w fun r w' => r = .returned (.tuple #[.agg #[.int .i64 ek, .int .i64 en, .int .i64 esl, .int .i64 esz, .string ⟨esum.toArray⟩], .bool true]) ∧ Below w.heap.size w w' at hpc
        have hn0 : 0 ≤ en := by omega
        by_cases hmod : en % 8 = (k : Int)
        · obtain ⟨oa, oc, hv, hoc, ho1, ho2⟩ := HE.out.form
          obtain ⟨L, hL⟩ : ∃ L, scan D k = L := ⟨_, rfl⟩
          have hLl : L.length ≤ 8 := by have := scan_len D k; rw [hL] at this; omega
          rw [hL] at hv hoc ho1
          rw [hL] at HE HSO
          subst hv
          have HLS := Hd.mk hL
          have HO1 := Hd.mk ho1
          have HO2 := Hd.mk ho2
          clear hL ho1 ho2
          have hm1 : (en % 8 != (k : Int)) = false := by rw [bne_eq_false_iff_eq]; exact hmod
          have HN := Hd.mk (HSO.out hmod)
          clear hmod
          go_wp2_with fail
          refine hr.mono ?_
          rintro e w1 ⟨rfl, rfl⟩
          clear hr
          go_wp2_with fail
          refine (hpc _).mono ?_
          rintro e w2 ⟨rfl, hb⟩
          have HB2 : Hd (Below w.heap.size w w2) := ⟨HB.out.trans (hb.mono HB.out.size)⟩
          have HE2 : Hd (OwnE w2 w.heap.size (.slice oa L.length oc) L) := ⟨HE.out.below hb⟩
          clear hb hpc
          go_wp2_with fail
          obtain ⟨N, hN⟩ : ∃ N, w2.heap.size = N := ⟨_, rfl⟩
          rw [hN]
          refine wp_world (fun w3 => ScanMid w w3 (.slice oa L.length oc) L N ⟨ek, en, esl, esz, esum⟩) ⟨HE2.out.alloc _, blk_new _ _ _ _ _ hN, HB2.out.alloc HB2.out.size _⟩ ?_
          clear hN HE HE2 HB2 HB
          intro w3 m3
          have M3 := Hd.mk m3
          clear m3
          go_loopg [4, 40] L.length (fun g2 v i wy => ∃ j : Nat, j + g2 = L.length ∧ i = .int .i64 (j : Int) ∧ v = .slice oa L.length oc ∧ Hd (∀ x ∈ L.take j, ¬ x.n > en) ∧ Hd (ScanMid w wy (.slice oa L.length oc) L N ⟨ek, en, esl, esz, esum⟩))
          case atStart => exact ⟨0, by omega, rfl, rfl, ⟨by simp⟩, M3⟩
          case round =>
            clear M3
            obtain ⟨wo, hwo⟩ : ∃ x, x = wr := ⟨_, rfl⟩
            obtain ⟨j, hjg, rfl, rfl, HJ, M⟩ := hrel
            cases gk with
            | zero =>
              have hjL : j = L.length := by omega
              have hjz : ¬ ((j : Int) < (L.length : Int)) := by omega
              have HJ2 : Hd (ins ⟨ek, en, esl, esz, esum⟩ L = L ++ [⟨ek, en, esl, esz, esum⟩]) := ⟨ins_end _ _ fun x hx => by
                have := HJ.out x (by rw [hjL, List.take_length]; exact hx)
                show ¬ x.n > en
                omega⟩
              have d0 := blk_cell M.out.bx 0
              have d1 := blk_cell M.out.bx 1
              have d2 := blk_cell M.out.bx 2
              have d3 := blk_cell M.out.bx 3
              have d4 := blk_cell M.out.bx 4
              simp only [ecell, List.getElem?_toArray, List.getElem?_cons_zero, List.getElem?_cons_succ] at d0 d1 d2 d3 d4
              have OA : Hd (OwnE (wr.alloc (.cells #[.int .i64 ek, .int .i64 en, .int .i64 esl, .int .i64 esz, .string ⟨esum.toArray⟩] 28 (0, 0))) w.heap.size (.slice oa L.length oc) L) := ⟨OwnE.below M.out.ow ((Below.refl _ _).alloc (Nat.le_refl _) _)⟩
              have BA : Hd (Below w.heap.size w (wr.alloc (.cells #[.int .i64 ek, .int .i64 en, .int .i64 esl, .int .i64 esz, .string ⟨esum.toArray⟩] 28 (0, 0)))) := ⟨M.out.bl.alloc M.out.bl.size _⟩
              have CA : Hd (∀ i u, (ecells [(⟨ek, en, esl, esz, esum⟩ : En)])[i]? = some u → (wr.alloc (.cells #[.int .i64 ek, .int .i64 en, .int .i64 esl, .int .i64 esz, .string ⟨esum.toArray⟩] 28 (0, 0))).cell? ((⟨wr.heap.size, 0, none⟩ : Addr).add i) = some u) :=
                ⟨(OwnE.lit wr 0 wr.heap.size ⟨ek, en, esl, esz, esum⟩ rfl (Nat.zero_le _)).allCells⟩
              clear hjL M
              go_wp2_with ((with_reducible refine wpList_plain rfl fun K hK => W_appE (.tmp 62) (.tmp 64) ⟨wr.heap.size, 0, none⟩ 1 1 [(⟨ek, en, esl, esz, esum⟩ : En)] OA.out ?hp fun v6 w6 h6 h7 h8 => hK _ _ ?_); (case hp => exact ⟨rfl, rfl, rfl, CA.out, by omega, by have := BA.out.size; exact this⟩); have H6 := Hd.mk h6; have H7 := Hd.mk h7; clear h6 h7 h8 hK)
              try rw [Exit.noGoto_ret]
              go_roundg g
              case measure => omega
              case rel =>
                refine ⟨k + 1, by omega, by go_num, ⟨?_⟩, ⟨BA.out.grown H7.out BA.out.size fun q hq => (OA.out.lt q hq).1⟩⟩
                rw [HN.out, HJ2.out]
                exact H6.out
            | succ g2 =>
              have hjlt : j < L.length := by omega
              have hjz : (j : Int) < (L.length : Int) := by omega
              obtain ⟨og, hog⟩ : ∃ og, oa = some ⟨og, 0, none⟩ := by
                cases oa with
                | none => have := (HO1.out rfl).1; omega
                | some x => obtain ⟨q, hq, _⟩ := HO2.out x rfl; exact ⟨q, by rw [hq]⟩
              subst hog
              obtain ⟨x, hx⟩ : ∃ x, L[j] = x := ⟨_, rfl⟩
              have q := fun i hi => M.out.ow.cells j hjlt i hi
              rw [hx] at q
              have HX := Hd.mk hx
              clear hx
              obtain ⟨xk, xn, xsl, xsz, xsum⟩ := x
              have q0 := q 0 (by decide)
              have q1 := q 1 (by decide)
              have q2 := q 2 (by decide)
              have q3 := q 3 (by decide)
              have q4 := q 4 (by decide)
              simp only [ecell, List.getElem?_cons_zero, List.getElem?_cons_succ, Nat.add_zero] at q0 q1 q2 q3 q4
              have b1 := blk_cell M.out.bx 1
              simp only [ecell, List.getElem?_toArray, List.getElem?_cons_zero, List.getElem?_cons_succ] at b1
              have hNlt := blk_lt M.out.bx
              clear q
              by_cases hgt : en < xn
              · go_wp2_with fail
                refine wp_world (fun w4 => ScanMid w w4 (.slice (some ⟨og, 0, none⟩) L.length oc) L N ⟨ek, en, esl, esz, esum⟩) (M.out.ext ((Below.refl _ _).alloc (Nat.le_refl _) _)) ?_
                clear q0 q1 q2 q3 q4 b1 hNlt M
                intro w4 m4
                have d0 := fun x => blk_cell (later_blk m4.bx x) 0
                have d1 := fun x => blk_cell (later_blk m4.bx x) 1
                have d2 := fun x => blk_cell (later_blk m4.bx x) 2
                have d3 := fun x => blk_cell (later_blk m4.bx x) 3
                have d4 := fun x => blk_cell (later_blk m4.bx x) 4
                simp only [ecell, List.getElem?_toArray, List.getElem?_cons_zero, List.getElem?_cons_succ] at d0 d1 d2 d3 d4
                have M := Hd.mk m4
                clear m4
                have r1 : (0 : Int) ≤ (j : Int) := by omega
                have r2 : (j : Int) ≤ (oc : Int) := by omega
                have r3 : (j : Int) ≤ (L.length : Int) := by omega
                have r4 : (L.length : Int) ≤ (oc : Int) := by omega
                refine region_ext [0, 0, 0, 0, 0, 2, 0, 0, 0, 2, 1, 1] (by kernel_rfl) (by kernel_rfl) (fun _ _ _ _ _ h => h) ?_
                simp (decide := true) only [pick, ↓reduceIte]
                repeat go_big_quiet_step (fail)
                refine wpQuiet_nil ?_
                refine wpF_plain rfl ?_
                refine W_build1 40 28 (.tmp 54) (ecell ⟨ek, en, esl, esz, esum⟩) ⟨Try.underlying40, by kernel_rfl, by kernel_rfl⟩ ⟨rfl, by show 0 < 5; omega, by show 5 ≤ 2 ^ 24; omega⟩ ?_
                refine ⟨(Below.refl _ _).alloc (Nat.le_refl _) _, ?_⟩
                refine wpF_plain rfl ?_
                have hbA : Below w4.heap.size w4 (w4.drew.alloc (.cells (ecell ⟨ek, en, esl, esz, esum⟩).toArray 28 (0, 0))) := (Below.refl _ _).drew.alloc (Nat.le_refl _) _
                refine W_appG (.tmp 55) (.tmp 58) w4.heap.size 1 1 ⟨og, j * 5, none⟩ (L.length - j) (oc - j) (L.drop j) (OwnE.lit w4.drew 0 w4.heap.size ⟨ek, en, esl, esz, esum⟩ rfl (Nat.zero_le _)) ⟨rfl, ?hs, by simp, (OwnE.below M.out.ow hbA).tailCells j (by omega), by simp; omega, Nat.zero_le _, by simp; omega⟩ ?_
                case hs => rfl
                intro v5 w5 h5 hb5
                refine ⟨hb5, wpF_nil ?_⟩
                have hb45 : Below w4.heap.size w4 w5 := hbA.trans (hb5.mono hbA.size)
                obtain ⟨g5, c5, hv5, hg5a, hg5b⟩ := h5.some (by simp)
                subst hv5
                have O5 := Hd.mk h5.allCells
                have O4 := Hd.mk ((OwnE.below M.out.ow hb45).cap j (by omega))
                have HB5 : Hd (Below w.heap.size w w5) := ⟨M.out.bl.trans (hb45.mono M.out.bl.size)⟩
                have HJ2 := Hd.mk (ins_at ⟨ek, en, esl, esz, esum⟩ L j hjlt (fun x hx => by have := HJ.out x hx; show ¬ x.n > en; omega) (by rw [HX.out]; exact hgt))
                have hog := Hd.mk (M.out.ow.lt og rfl)
                clear hbA h5 hb5 hb45 d0 d1 d2 d3 d4 M r1 r2 r3 r4
                go_wp2_with ((with_reducible refine wpList_plain rfl fun K hK => W_appE (.tmp 53) (.tmp 59) ⟨g5, 0, none⟩ ([(⟨ek, en, esl, esz, esum⟩ : En)] ++ L.drop j).length c5 ([(⟨ek, en, esl, esz, esum⟩ : En)] ++ L.drop j) O4.out ?hp fun v6 w6 h6 h7 h8 => hK _ _ ?_); (case hp => exact ⟨rfl, rfl, rfl, O5.out, by simp; omega, by have := HB5.out.size; omega⟩); have H6 := Hd.mk h6; have H7 := Hd.mk h7; clear h6 h7 h8 hK)
                try rw [Exit.noGoto_ret]
                go_roundg g
                case measure => omega
                case rel =>
                  refine ⟨k + 1, by omega, by go_num, ⟨?_⟩, ⟨HB5.out.grown H7.out HB5.out.size fun q hq => by simp only [Value.ownBlock, Option.some.injEq] at hq; subst hq; exact hog.out.1⟩⟩
                  rw [HN.out, HJ2.out]
                  exact H6.out
              · go_wp2_with fail
                go_roundg g2
                case measure => omega
                case rel =>
                  refine ⟨j + 1, by omega, by go_num, rfl, ⟨?_⟩, ⟨M.out.ext ((Below.refl _ _).alloc (Nat.le_refl _) _)⟩⟩
                  intro y hy
                  rw [List.take_succ_eq_append_getElem hjlt, List.mem_append, List.mem_singleton, HX.out] at hy
                  rcases hy with hy | rfl
                  · exact HJ.out y hy
                  · exact hgt
        · have hm1 : (en % 8 != (k : Int)) = true := by rw [bne_iff_ne]; exact hmod
          have HN := Hd.mk (HSC.out hmod)
          clear hmod
          go_wp2_with fail
          refine hr.mono ?_
          rintro e w1 ⟨rfl, rfl⟩
          clear hr
          go_wp2_with fail
          refine (hpc _).mono ?_
          rintro e w2 ⟨rfl, hb⟩
          have HB2 : Hd (Below w.heap.size w w2) := ⟨HB.out.trans (hb.mono HB.out.size)⟩
          have HE2 : Hd (OwnE w2 w.heap.size u4 (scan D (k + 1))) := ⟨by rw [HN.out]; exact HE.out.below hb⟩
          clear hb hpc
          go_wp2_with fail
          go_roundg g
          case measure => omega
          case rel => exact ⟨k + 1, by omega, by go_num, ⟨HE2.out.alloc _⟩, ⟨HB2.out.alloc HB2.out.size _⟩⟩
end Go.Proofs.Ytkdakmddlkgjkaa
open Go.RowKit Go.Lib
namespace Go.Proofs.Ytkdakmddlkgjkaa
set_option maxRecDepth 100000
def lastE (D : Ds) : En := ((scan D 8).getLast?).getD E0
theorem newest_eq (D : Ds) : newest D = (lastE D).n := by
  unfold newest lastE
  cases (scan D 8).getLast? <;> rfl
theorem ins_mem {e x : En} : ∀ {l : List En}, x ∈ ins e l → x = e ∨ x ∈ l
  | [], h => by simpa [ins] using h
  | y :: r, h => by
    rw [ins] at h
    split at h
    · rcases List.mem_cons.1 h with h | h
      · exact .inl h
      · exact .inr h
    · rcases List.mem_cons.1 h with h | h
      · exact .inr (by rw [h]; exact List.mem_cons_self)
      · rcases ins_mem h with h | h
        · exact .inl h
        · exact .inr (List.mem_cons_of_mem _ h)
theorem scan_right (D : Ds) : ∀ k, ∀ x ∈ scan D k, x.right = true
  | 0, x, h => by simp [scan] at h
  | k + 1, x, h => by
    rw [scan] at h
    split at h
    · rename_i e he
      split at h
      · rcases ins_mem h with rfl | h
        · exact (of_parse he).1
        · exact scan_right D k x h
      · exact scan_right D k x h
    · exact scan_right D k x h
theorem lastE_bound (D : Ds) : 0 ≤ (lastE D).n ∧ (lastE D).n ≤ 4294967295 := by
  unfold lastE
  cases h : (scan D 8).getLast? with
  | none => decide
  | some e =>
    have := scan_right D 8 e (List.mem_of_getLast? h)
    simp only [En.right, decide_eq_true_eq] at this
    exact ⟨by show 0 ≤ e.n; omega, this.2.2.2.1⟩
/-- What Last answers of a disk. -/
def lastV (D : Ds) : Value := if D.off then .tuple #[ev E0, .bool false, .int .i64 7] else .tuple #[ev (lastE D), .bool (!(scan D 8).isEmpty), .int .i64 0]
section
variable {w w2 : World} {N : Nat} {t : TypeId}
theorem below5 {B : Nat} {w0 : World} (h : Below B w0 w2) (hN : B ≤ N) (x0 x1 x2 x3 x4 : Value) : Below B w0 (((((w2.setCell ⟨N, 0, none⟩ x0).setCell ⟨N, 1, none⟩ x1).setCell ⟨N, 2, none⟩ x2).setCell ⟨N, 3, none⟩ x3).setCell ⟨N, 4, none⟩ x4) :=
  ((((h.setCell (p := ⟨N, 0, none⟩) hN _).setCell (p := ⟨N, 1, none⟩) hN _).setCell (p := ⟨N, 2, none⟩) hN _).setCell (p := ⟨N, 3, none⟩) hN _).setCell (p := ⟨N, 4, none⟩) hN _
end
theorem last_nil (w : World) : Calls Try.prog 22 #[.pointer none] w fun e w' => e = .returned (.tuple #[ev E0, .bool false, .int .i64 16]) ∧ Below w.heap.size w w' := by
  have hb0 : Hd (Below w.heap.size w (w.alloc (.cells #[.int .i64 0, .int .i64 0, .int .i64 0, .int .i64 0, .string ⟨#[]⟩] 28 (0, 0)))) := ⟨(Below.refl _ _).alloc (Nat.le_refl _) _⟩
  go_enter Try.func22, Try.ntmps22
  go_wp2_with fail
  refine (scan_nil _).mono ?_
  rintro e w' ⟨rfl, rfl⟩
  go_wp2_with fail
  refine bodyPost_ret (v := .tuple #[.agg #[.int .i64 0, .int .i64 0, .int .i64 0, .int .i64 0, .string ⟨#[]⟩], .bool false, .int .i64 16]) (by simp [results, Try.results22, go_sem]) rfl ⟨rfl, ?_⟩
  first | exact hb0.out | exact below5 hb0.out (Nat.le_refl _) _ _ _ _ _
set_option maxHeartbeats 1000000 in
theorem last_c {w : World} {b : Nat} {D : Ds} {F : Nat → Prop} (h : IsDisk w b D F) : Calls Try.prog 22 #[.pointer (some ⟨b, 0, none⟩)] w fun e w' => e = .returned (lastV D) ∧ Below w.heap.size w w' := by
  have hb0 : Hd (Below w.heap.size w (w.alloc (.cells #[.int .i64 0, .int .i64 0, .int .i64 0, .int .i64 0, .string ⟨#[]⟩] 28 (0, 0)))) := ⟨(Below.refl _ _).alloc (Nat.le_refl _) _⟩
  have H := Hd.mk h
  unfold lastV
  by_cases ho : D.off = true
  · rw [if_pos ho]
    have hs := scan_off (h.ext hb0.out) ho
    clear h ho
    go_enter Try.func22, Try.ntmps22
    go_wp2_with fail
    refine hs.mono ?_
    rintro e w' ⟨rfl, rfl⟩
    clear hs
    go_wp2_with fail
    refine bodyPost_ret (v := .tuple #[.agg #[.int .i64 0, .int .i64 0, .int .i64 0, .int .i64 0, .string ⟨#[]⟩], .bool false, .int .i64 7]) (by simp [results, Try.results22, go_sem]) rfl ⟨rfl, ?_⟩
    first | exact hb0.out | exact below5 hb0.out (Nat.le_refl _) _ _ _ _ _
  · rw [if_neg ho]
    have hs := scan_c (h.ext hb0.out) (by simpa using ho)
    clear h ho
    obtain ⟨N, hN⟩ : ∃ N, w.heap.size = N := ⟨_, rfl⟩
    have HN := Hd.mk hN
    have hLl := scan_len D 8
    obtain ⟨L, hL⟩ : ∃ L, scan D 8 = L := ⟨_, rfl⟩
    rw [hL] at hs hLl
    obtain ⟨V, hV⟩ : ∃ V, Value.tuple #[ev (lastE D), .bool (!(scan D 8).isEmpty), .int .i64 0] = V := ⟨_, rfl⟩
    rw [hL] at hV
    rw [hL, hV]
    have HV := Hd.mk hV
    have HL := Hd.mk hL
    clear hN hL hV
    go_enter Try.func22, Try.ntmps22
    go_wp2_with fail
    refine hs.mono ?_
    rintro e w2 ⟨v, rfl, hown, hb⟩
    clear hs
    have hbk := blk_below (blk_new w #[.int .i64 0, .int .i64 0, .int .i64 0, .int .i64 0, .string ⟨#[]⟩] 28 (0, 0) _ rfl) hb (by rw [sz_alloc]; omega)
    have HB2 : Hd (Below w.heap.size w w2) := ⟨hb0.out.trans (hb.mono hb0.out.size)⟩
    rw [HN.out] at hbk ⊢
    have d0 := blk_cell hbk 0
    have d1 := blk_cell hbk 1
    have d2 := blk_cell hbk 2
    have d3 := blk_cell hbk 3
    have d4 := blk_cell hbk 4
    have f0 := blk_free hbk 0
    have f1 := blk_free hbk 1
    have f2 := blk_free hbk 2
    have f3 := blk_free hbk 3
    have f4 := blk_free hbk 4
    simp only [List.getElem?_toArray, List.getElem?_cons_zero, List.getElem?_cons_succ] at d0 d1 d2 d3 d4
    have hblt := blk_lt hbk
    clear hbk hb hb0
    by_cases h0 : 0 < L.length
    · obtain ⟨g, c, hv, hg1, hg2⟩ := hown.some h0
      subst hv
      have hk : L.length - 1 < L.length := by omega
      have q := hown.cells _ hk
      obtain ⟨x, hx⟩ : ∃ x, L[L.length - 1] = x := ⟨_, rfl⟩
      simp only [hx] at q
      have hlast : V = .tuple #[ev x, .bool true, .int .i64 0] := by
        have h1 : lastE D = x := by
          unfold lastE
          rw [HL.out, List.getLast?_eq_getElem?, List.getElem?_eq_getElem hk, hx]; rfl
        have hem : (!L.isEmpty) = true := by cases L with | nil => simp at h0 | cons => rfl
        rw [← HV.out, h1, hem]
      subst hlast
      clear HV
      obtain ⟨xk, xn, xsl, xsz, xsum⟩ := x
      have q0 := q 0 (by decide)
      have q1 := q 1 (by decide)
      have q2 := q 2 (by decide)
      have q3 := q 3 (by decide)
      have q4 := q 4 (by decide)
      simp only [ecell, List.getElem?_cons_zero, List.getElem?_cons_succ, Nat.add_zero] at q0 q1 q2 q3 q4
      have hl0 : ((L.length : Int) == 0) = false := by rw [beq_eq_false_iff_ne]; omega
      have hl1 : (0 : Int) ≤ (L.length : Int) - 1 := by omega
      have hl2 : (L.length : Int) - 1 < (L.length : Int) := by omega
      have hl3 : ((L.length : Int) - 1).toNat = L.length - 1 := by omega
      clear q hx hown
      go_wp2_with fail
      refine bodyPost_ret (v := .tuple #[.agg #[.int .i64 xk, .int .i64 xn, .int .i64 xsl, .int .i64 xsz, .string ⟨xsum.toArray⟩], .bool true, .int .i64 0]) (by simp [results, Try.results22, go_sem, d0, d1, d2, d3, d4]) rfl ⟨rfl, below5 HB2.out (by rw [HN.out]; exact Nat.le_refl _) _ _ _ _ _⟩
    · have hn : L = [] := List.eq_nil_of_length_eq_zero (by omega)
      subst hn
      have hlast : V = .tuple #[ev E0, .bool false, .int .i64 0] := by
        have h1 : lastE D = E0 := by unfold lastE; rw [HL.out]; rfl
        rw [← HV.out, h1]; rfl
      subst hlast
      obtain ⟨oa, oc, hv, _⟩ := hown.form
      subst hv
      clear HV hown
      go_wp2_with fail
      refine bodyPost_ret (v := .tuple #[.agg #[.int .i64 0, .int .i64 0, .int .i64 0, .int .i64 0, .string ⟨#[]⟩], .bool false, .int .i64 0]) (by simp [results, Try.results22, go_sem, d0, d1, d2, d3, d4]) rfl ⟨rfl, below5 HB2.out (by rw [HN.out]; exact Nat.le_refl _) _ _ _ _ _⟩
end Go.Proofs.Ytkdakmddlkgjkaa
