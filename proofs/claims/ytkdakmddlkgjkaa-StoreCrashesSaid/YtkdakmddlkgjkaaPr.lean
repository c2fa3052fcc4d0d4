import Derived.Test.YtkdakmddlkgjkaaPrp
open Go.RowKit Go.Lib
namespace Go.Proofs.Ytkdakmddlkgjkaa
set_option maxRecDepth 100000
open Sha
/-! store.Prepare. -/
section
variable {w : World} {p b : Nat} {k : Kp} {odd : Bool}
theorem sprep_nil (w : World) (tx : List UInt8) : Calls Try.prog 43 #[.pointer none, .string ⟨tx.toArray⟩] w fun e w' => e = .returned (.int .i64 16) ∧ w = w' := by
  go_enter Try.func43, Try.ntmps43
  go_wp2_with fail
  refine (sthere_nil _).mono ?_
  rintro e w' ⟨rfl, rfl⟩
  go_wp2_with fail
  go_ret
  exact ⟨rfl, rfl⟩
theorem sprep_zero (w : World) (p : Nat) (h : w.cell? ⟨p, 3, none⟩ = some (.pointer none)) (tx : List UInt8) : Calls Try.prog 43 #[.pointer (some ⟨p, 0, none⟩), .string ⟨tx.toArray⟩] w fun e w' => e = .returned (.int .i64 16) ∧ w = w' := by
  have ht := sthere_zero w p h
  clear h
  go_enter Try.func43, Try.ntmps43
  go_wp2_with fail
  refine ht.mono ?_
  rintro e w' ⟨rfl, rfl⟩
  go_wp2_with fail
  go_ret
  exact ⟨rfl, rfl⟩
set_option maxHeartbeats 2000000 in
theorem sprep_c {D : Ds} {F : Nat → Prop} {wt : Option (Nat × Kp)} (hd : IsDisk w b D F) (hp : ¬ F p) (hops : D.ops + 400 < 1000000000) (hgh : D.gh + 400 < 1000000000) (hl : k.tx.length < 1000000) (tx : List UInt8) (htx : tx.length < 1000000) (h : StAt w p b k odd wt) :
    Calls Try.prog 43 #[.pointer (some ⟨p, 0, none⟩), .string ⟨tx.toArray⟩] w fun e w' => e = .returned (.int .i64 ((sprep D k tx).1 : Nat)) ∧ ∃ F', IsDisk w' b (sprep D k tx).2.1 F' ∧ (∃ q, StAt w' p b k odd ((sprep D k tx).2.2.map fun k' => (q, k')) ∧ ((sprep D k tx).2.2 ≠ none → ¬ F' q)) ∧ Upd (fun i => F i ∨ i = p) w w' ∧ ∀ i, F' i → F i ∨ w.heap.size ≤ i := by
  have hent := fun w => kent_c k 1 w (by omega)
  have hops1 := swrite_ops hd.ok (oth k) tx
  have hsw := fun w' (hd' : IsDisk w' b D F) => swrite_c hd' (by omega) (by omega) (oth k) (by unfold oth; split <;> decide) tx htx
  have happ := fun w' F1 (hd' : IsDisk w' b (swrite D (oth k) tx).2 F1) => append_c hd' (by omega) (by omega) (k.ent 1)
  have hoth := fun (w1 : World) (h1 : StAt w1 p b k odd none) => sother_c h1
  have hof : ∀ w1 : World, Calls Try.prog 53 #[.string ⟨tx.toArray⟩] w1 fun e w' => e = .returned (.string ⟨(sha tx).toArray⟩) ∧ Below w1.heap.size w1 w' := fun w1 => of_c ⟨tx.toArray⟩ w1 (by show tx.length ≤ _; omega)
  have ht := sthere_c h
  have H1 : Mid w F p b k odd D F [] (w.setCell ⟨p, 5, none⟩ (.pointer none)) := ⟨⟨by rw [blk_set h.blk 5 (.pointer none)]; rfl, fun q k' e => by cases e⟩,
    hd.keep (by simp [World.setCell]) (fun j hj => Below.heap_setCell _ _ _ _ (fun e => hp (by have e2 : j = p := e; rw [← e2]; exact hj))), (Upd.refl _ _).setCell (.inr rfl) _, fun i h => .inl h, hp, fun e he => by cases he⟩
  have c5 : w.cell? ⟨p, 5, none⟩ = some (.pointer ((wt.map (·.1)).map fun q => ⟨q, 0, none⟩)) := h.c0.2.2.2.2.2
  have f5 : w.frozen? ⟨p, 5, none⟩ = false := blk_free h.blk 5
  have hplt := blk_lt h.blk
  obtain ⟨S, hS⟩ : ∃ S, sprep D k tx = S := ⟨_, rfl⟩
  rw [hS]
  unfold sprep at hS
  obtain ⟨o, ho⟩ : ∃ o, oth k = o := ⟨_, rfl⟩
  have hoth2 : ∀ w1 : World, StAt w1 p b k odd none → Calls Try.prog 71 #[.pointer (some ⟨p, 0, none⟩)] w1 fun e w' => e = .returned (.int .i64 (o : Int)) ∧ w1 = w' := fun w1 h1 => (hoth w1 h1).mono (by rintro e w' ⟨rfl, rfl⟩; refine ⟨?_, rfl⟩; rw [← ho]; unfold oth; split <;> rfl)
  rw [ho] at hsw happ hS hops1
  obtain ⟨Y, hY⟩ : ∃ Y, sha tx = Y := ⟨_, rfl⟩
  rw [hY] at hof hS
  obtain ⟨⟨c1, D1⟩, hw⟩ : ∃ r, swrite D o tx = r := ⟨_, rfl⟩
  rw [hw] at hsw happ hS
  obtain ⟨A, hA⟩ : ∃ A, app D1 (k.ent 1) = A := ⟨_, rfl⟩
  change ∀ w' F1, IsDisk w' b D1 F1 → _ at happ
  rw [hA] at happ hS
  obtain ⟨ksl, ktx, ksm⟩ := k
  obtain ⟨c, ⟨ak, an, al, az, aS⟩, D2⟩ := A
  change ∀ w, Calls Try.prog 73 #[.agg #[.int .i64 ksl, .string ⟨ktx.toArray⟩, .string ⟨ksm.toArray⟩], .int .i64 1] w fun e w' => e = .returned (.agg #[.int .i64 1, .int .i64 0, .int .i64 ksl, .int .i64 (ktx.length : Int), .string ⟨ksm.toArray⟩]) ∧ Below w.heap.size w w' at hent
  change ∀ w' F1, IsDisk w' b D1 F1 → Calls Try.prog 23 #[.pointer (some ⟨b, 0, none⟩), .agg #[.int .i64 1, .int .i64 0, .int .i64 ksl, .int .i64 (ktx.length : Int), .string ⟨ksm.toArray⟩]] w' fun r w2 => r = .returned (.tuple #[.agg #[.int .i64 ak, .int .i64 an, .int .i64 al, .int .i64 az, .string ⟨aS.toArray⟩], .int .i64 (c : Int)]) ∧ ∃ F', IsDisk w2 b D2 F' ∧ Upd F1 w' w2 ∧ ∀ i, F' i → F1 i ∨ w'.heap.size ≤ i at happ
  change ∀ w', IsDisk w' b D F → Calls Try.prog 72 #[.pointer (some ⟨b, 0, none⟩), .int .i64 (o : Int), .string ⟨tx.toArray⟩] w' fun e w2 => e = .returned (.int .i64 (c1 : Int)) ∧ ∃ F', IsDisk w2 b D1 F' ∧ Upd F w' w2 ∧ ∀ k, F' k → F k ∨ w'.heap.size ≤ k at hsw
  have HS : Hd ((if c1 ≠ 0 then (c1, D1, none) else if c ≠ 0 then (c, D2, none) else (0, D2, some ⟨(o : Int), tx, Y⟩)) = S) := ⟨hS⟩
  obtain ⟨P, hP⟩ : ∃ P : Ending → World → Prop, P = fun e w' => e = .returned (.int .i64 (S.1 : Nat)) ∧ ∃ F', IsDisk w' b S.2.1 F' ∧ (∃ q, StAt w' p b ⟨ksl, ktx, ksm⟩ odd (S.2.2.map fun k' => (q, k')) ∧ (S.2.2 ≠ none → ¬ F' q)) ∧ Upd (fun i => F i ∨ i = p) w w' ∧ ∀ i, F' i → F i ∨ w.heap.size ≤ i := ⟨_, rfl⟩
  rw [← hP]
  have HP := Hd.mk hP
  have HM := Hd.mk H1
  have HPL := Hd.mk hplt
  clear hP hA hd hp h hl hops hgh hS hw hops1 ho hY hoth H1 hplt
  go_enter Try.func43, Try.ntmps43
  go_wp2_with fail
  refine ht.mono ?_
  rintro e w' ⟨rfl, rfl⟩
  clear ht
  go_wp2_with fail
  refine (hoth2 _ HM.out.st).mono ?_
  rintro e w' ⟨rfl, rfl⟩
  clear c5 f5
  go_wp2_with fail
  refine (hof _).mono ?_
  rintro e w1 ⟨rfl, hb⟩
  have HMa := Hd.mk (HM.out.ext hb)
  clear hb HM hof hoth2
  obtain ⟨NQ, hNQ⟩ : ∃ n, w1.heap.size = n := ⟨_, rfl⟩
  have HPL2 : Hd (p < NQ) := ⟨hNQ ▸ blk_lt HMa.out.st.blk⟩
  have HN := Hd.mk hNQ
  clear hNQ
  go_upto_region 5 with fail
  rw [HN.out]
  obtain ⟨N0, hN0⟩ : ∃ n, NQ + 1 = n := ⟨_, rfl⟩
  have HM1 : Hd (Mid w F p b ⟨ksl, ktx, ksm⟩ odd D F [(NQ, #[.int .i64 (o : Int), .string ⟨tx.toArray⟩, .string ⟨Y.toArray⟩], 90)] (w1.alloc (.cells #[.int .i64 (o : Int), .string ⟨tx.toArray⟩, .string ⟨Y.toArray⟩] 90 (0, 0)))) := ⟨HN.out ▸ HMa.out.new _ _⟩
  have HX0 : Hd (NQ < N0) := ⟨by omega⟩
  have HP0 : Hd (p < N0 ∧ NQ < N0) := ⟨⟨Nat.lt_trans HPL2.out HX0.out, HX0.out⟩⟩
  refine wp_world (fun w2 => Mid w F p b ⟨ksl, ktx, ksm⟩ odd D F [(NQ, #[.int .i64 (o : Int), .string ⟨tx.toArray⟩, .string ⟨Y.toArray⟩], 90)] w2 ∧ N0 ≤ w2.heap.size) ⟨HM1.out, by rw [sz_alloc, HN.out]; exact Nat.le_of_eq hN0.symm⟩ ?_
  clear HM1 HMa hN0 HN
  rintro w2 hm
  have HM2 := Hd.mk hm
  clear hm
  refine region_X N0 [0, 0, 0, 0, 0, 0, 0, 1, 0] (lst [0, 0, 0, 0, 0, 0, 0, 0, 0]) 9 (by kernel_rfl) (by kernel_rfl) (by kernel_rfl) ?_
  refine wpX_reads [0, 1, 2, 3, 4, 5, 6] (lst [1,1,1,1,1,1,1,0,0]) 2 (by rfl) (by kernel_rfl) (fun _ _ _ _ _ h => h) ?_
  have y0 := fun x : Later (BelN N0) w2.drew => blk_cell (later_blkN (blk_drew HM2.out.1.st.blk) HP0.out.1 x) 0
  have y1 := fun x : Later (BelN N0) w2.drew => blk_cell (later_blkN (blk_drew HM2.out.1.st.blk) HP0.out.1 x) 1
  have y2 := fun x : Later (BelN N0) w2.drew => blk_cell (later_blkN (blk_drew HM2.out.1.st.blk) HP0.out.1 x) 2
  have y3 := fun x : Later (BelN N0) w2.drew => blk_cell (later_blkN (blk_drew HM2.out.1.st.blk) HP0.out.1 x) 3
  have x0 := fun x : Later (BelN N0) w2.drew => blk_cell (later_blkN (blk_drew (HM2.out.1.xs _ (List.mem_cons_self ..)).1) HP0.out.2 x) 0
  simp only [stcells, List.getElem?_toArray, List.getElem?_cons_zero, List.getElem?_cons_succ] at y0 y1 y2 y3 x0
  simp (decide := true) only [opsAt, List.getElem?_cons_zero, List.getElem?_cons_succ]
  repeat go_big_quiet_step (fail)
  refine wpQuiet_nil ?_
  refine wpX_world (fun w' => Mid w F p b ⟨ksl, ktx, ksm⟩ odd D F [(NQ, #[.int .i64 (o : Int), .string ⟨tx.toArray⟩, .string ⟨Y.toArray⟩], 90)] w' ∧ N0 ≤ w'.heap.size) ⟨HM2.out.1.drew, HM2.out.2⟩ ?_
  rintro w0 hm
  have HM0 := Hd.mk hm
  clear hm HM2
  refine wpX_ready (rs := [7]) (by kernel_rfl) (by simp) ?_
  refine AllX.cons rfl (lst [1,1,1,1,1,1,1,1,0]) (by kernel_rfl) (by rfl) ?_ AllX.nil
  go_step
  refine (hsw _ HM0.out.1.d).mono ?_
  rintro e w1 ⟨rfl, F1, hi, hu, hf⟩
  have HM1 : Hd (Mid w F p b ⟨ksl, ktx, ksm⟩ odd D1 F1 [(NQ, #[.int .i64 (o : Int), .string ⟨tx.toArray⟩, .string ⟨Y.toArray⟩], 90)] w1 ∧ N0 ≤ w1.heap.size) := ⟨HM0.out.1.app hi hu hf, Nat.le_trans HM0.out.2 hu.size⟩
  refine ⟨fun hc => (by cases hc), ?_⟩
  clear hi hu hf
  refine wpX_reads [8] (lst [1,1,1,1,1,1,1,1,1]) 0 (by rfl) (by kernel_rfl) (fun _ _ _ _ _ h => h) ?_
  simp (decide := true) only [opsAt, List.getElem?_cons_zero, List.getElem?_cons_succ]
  repeat go_big_quiet_step (fail)
  refine wpQuiet_nil ?_
  refine wpX_done (by kernel_rfl) ?_
  clear hsw
  by_cases hc1 : c1 = 0
  case neg =>
    have hc2 : ((c1 : Int) != 0) = true := by rw [bne_iff_ne]; omega
    go_wp2_with fail
    first | go_ret | skip
    rw [HP.out, ← HS.out, if_pos hc1]
    exact ⟨rfl, F1, HM1.out.1.d, ⟨0, HM1.out.1.st, fun hc => absurd rfl hc⟩, HM1.out.1.u, HM1.out.1.f⟩
  subst hc1
  go_upto_region 8 with fail
  refine wp_world (fun w2 => Mid w F p b ⟨ksl, ktx, ksm⟩ odd D1 F1 [(NQ, #[.int .i64 (o : Int), .string ⟨tx.toArray⟩, .string ⟨Y.toArray⟩], 90)] w2 ∧ N0 ≤ w2.heap.size) HM1.out ?_
  clear HM1
  rintro w2 hm
  have HM2 := Hd.mk hm
  clear hm
  refine region_X N0 [0, 0, 0, 0, 0, 0, 0, 0, 2, 1, 0, 0, 0, 2, 2, 0] (lst [0, 0, 0, 0, 0, 0, 0, 0, 0, 0, 0, 0, 0, 0, 0, 0]) 16 (by kernel_rfl) (by kernel_rfl) (by kernel_rfl) ?_
  refine wpX_reads [0, 1, 2, 3, 4, 5, 6, 7] (lst [1,1,1,1,1,1,1,1,0,0,0,0,0,0,0,0]) 8 (by rfl) (by kernel_rfl) (fun _ _ _ _ _ h => h) ?_
  have y0 := fun x : Later (BelN N0) w2.drew => blk_cell (later_blkN (blk_drew HM2.out.1.st.blk) HP0.out.1 x) 0
  have y1 := fun x : Later (BelN N0) w2.drew => blk_cell (later_blkN (blk_drew HM2.out.1.st.blk) HP0.out.1 x) 1
  have y2 := fun x : Later (BelN N0) w2.drew => blk_cell (later_blkN (blk_drew HM2.out.1.st.blk) HP0.out.1 x) 2
  have y3 := fun x : Later (BelN N0) w2.drew => blk_cell (later_blkN (blk_drew HM2.out.1.st.blk) HP0.out.1 x) 3
  have x0 := fun x : Later (BelN N0) w2.drew => blk_cell (later_blkN (blk_drew (HM2.out.1.xs _ (List.mem_cons_self ..)).1) HP0.out.2 x) 0
  simp only [stcells, List.getElem?_toArray, List.getElem?_cons_zero, List.getElem?_cons_succ] at y0 y1 y2 y3 x0
  simp (decide := true) only [opsAt, List.getElem?_cons_zero, List.getElem?_cons_succ]
  repeat go_big_quiet_step (fail)
  refine wpQuiet_nil ?_
  refine wpX_world (fun w' => Mid w F p b ⟨ksl, ktx, ksm⟩ odd D1 F1 [(NQ, #[.int .i64 (o : Int), .string ⟨tx.toArray⟩, .string ⟨Y.toArray⟩], 90)] w' ∧ N0 ≤ w'.heap.size) ⟨HM2.out.1.drew, HM2.out.2⟩ ?_
  rintro w0 hm
  have HM0 := Hd.mk hm
  clear hm HM2
  refine wpX_ready (rs := [8, 13]) (by kernel_rfl) (by simp) ?_
  refine AllX.cons rfl (lst [1,1,1,1,1,1,1,1,1,0,0,0,0,0,0,0]) (by kernel_rfl) (by rfl) ?_ (AllX.cons rfl (lst [1,1,1,1,1,1,1,1,0,0,0,0,0,1,0,0]) (by kernel_rfl) (by rfl) ?_ AllX.nil)
  · go_step
    refine (hent _).mono ?_
    rintro e w1 ⟨rfl, hb⟩
    have HM1 : Hd (Mid w F p b ⟨ksl, ktx, ksm⟩ odd D1 F1 [(NQ, #[.int .i64 (o : Int), .string ⟨tx.toArray⟩, .string ⟨Y.toArray⟩], 90)] w1 ∧ N0 ≤ w1.heap.size) := ⟨HM0.out.1.ext hb, Nat.le_trans HM0.out.2 hb.size⟩
    refine ⟨fun _ => hb.mono HM0.out.2, ?_⟩
    clear hb
    refine wpX_ready (rs := [9, 13]) (by kernel_rfl) (by simp) ?_
    refine AllX.cons rfl (lst [1,1,1,1,1,1,1,1,1,1,0,0,0,0,0,0]) (by kernel_rfl) (by rfl) ?_ (AllX.cons rfl (lst [1,1,1,1,1,1,1,1,1,0,0,0,0,1,0,0]) (by kernel_rfl) (by rfl) ?_ AllX.nil)
    · go_step
      refine (happ _ _ HM1.out.1.d).mono ?_
      rintro e w2 ⟨rfl, F2, hi, hu, hf⟩
      have HM2 : Hd (Mid w F p b ⟨ksl, ktx, ksm⟩ odd D2 F2 [(NQ, #[.int .i64 (o : Int), .string ⟨tx.toArray⟩, .string ⟨Y.toArray⟩], 90)] w2 ∧ N0 ≤ w2.heap.size) := ⟨HM1.out.1.app hi hu hf, Nat.le_trans HM1.out.2 hu.size⟩
      refine ⟨fun hc => (by cases hc), ?_⟩
      clear hi hu hf
      refine wpX_reads [10, 11, 12] (lst [1,1,1,1,1,1,1,1,1,1,1,1,1,0,0,0]) 3 (by rfl) (by kernel_rfl) (fun _ _ _ _ _ h => h) ?_
      simp (decide := true) only [opsAt, List.getElem?_cons_zero, List.getElem?_cons_succ]
      repeat go_big_quiet_step (fail)
      refine wpQuiet_nil ?_
      refine wpX_ready (rs := [13]) (by kernel_rfl) (by simp) ?_
      refine AllX.cons rfl (lst [1,1,1,1,1,1,1,1,1,1,1,1,1,1,0,0]) (by kernel_rfl) (by rfl) ?_ AllX.nil
      go_step
      obtain ⟨NA, hNA⟩ : ∃ n, w2.heap.size = n := ⟨_, rfl⟩
      have HNA : Hd (N0 ≤ NA) := ⟨hNA ▸ HM2.out.2⟩
      have HM3' : Hd (Mid w F p b ⟨ksl, ktx, ksm⟩ odd D2 F2 [(NA, #[.int .i64 0, .int .i64 0, .int .i64 0, .int .i64 0, .string ⟨#[]⟩], 28), (NQ, #[.int .i64 (o : Int), .string ⟨tx.toArray⟩, .string ⟨Y.toArray⟩], 90)] (w2.alloc (.cells #[.int .i64 0, .int .i64 0, .int .i64 0, .int .i64 0, .string ⟨#[]⟩] 28 (0, 0))) ∧ N0 ≤ (w2.alloc (.cells #[.int .i64 0, .int .i64 0, .int .i64 0, .int .i64 0, .string ⟨#[]⟩] 28 (0, 0))).heap.size) := ⟨hNA ▸ HM2.out.1.new #[.int .i64 0, .int .i64 0, .int .i64 0, .int .i64 0, .string ⟨#[]⟩] 28, by rw [sz_alloc]; exact Nat.le_succ_of_le HM2.out.2⟩
      refine ⟨fun _ => (Below.refl _ _).alloc HM2.out.2 _, ?_⟩
      rw [hNA]
      refine wpX_world (fun w' => Mid w F p b ⟨ksl, ktx, ksm⟩ odd D2 F2 [(NA, #[.int .i64 0, .int .i64 0, .int .i64 0, .int .i64 0, .string ⟨#[]⟩], 28), (NQ, #[.int .i64 (o : Int), .string ⟨tx.toArray⟩, .string ⟨Y.toArray⟩], 90)] w' ∧ N0 ≤ w'.heap.size) HM3'.out ?_
      clear HM3'
      rintro w3 hm
      have HM3 := Hd.mk hm
      clear hm hNA
      refine wpX_ready (rs := [14]) (by kernel_rfl) (by simp) ?_
      refine AllX.cons rfl (lst [1,1,1,1,1,1,1,1,1,1,1,1,1,1,1,0]) (by kernel_rfl) (by rfl) ?_ AllX.nil
      have hN := (HM3.out.1.xs _ (List.mem_cons_self ..)).1
      have d0 := blk_cell hN 0
      have f0 := blk_free hN 0
      have d1 := blk_cell hN 1
      have f1 := blk_free hN 1
      have d2 := blk_cell hN 2
      have f2 := blk_free hN 2
      have d3 := blk_cell hN 3
      have f3 := blk_free hN 3
      have d4 := blk_cell hN 4
      have f4 := blk_free hN 4
      simp only [List.getElem?_toArray, List.getElem?_cons_zero, List.getElem?_cons_succ] at d0 d1 d2 d3 d4
      have hNX := (HM3.out.1.xs _ (List.mem_cons_self ..)).2
      clear hN
      go_step
      clear d0 d1 d2 d3 d4 f0 f1 f2 f3 f4
      have hX : ∀ e ∈ ([(NQ, #[.int .i64 (o : Int), .string ⟨tx.toArray⟩, .string ⟨Y.toArray⟩], 90)] : List (Nat × Array Value × TypeId)), e.1 ≠ NA := by
        intro e he
        have h2 := HNA.out; have h3 := HX0.out; simp only [List.mem_singleton] at he; subst he; show _ ≠ NA; omega
      have hle := HNA.out
      refine ⟨fun _ => ((((((((((Below.refl _ _).setCell (p := ⟨NA, 0, none⟩) hle _)).setCell (p := ⟨NA, 1, none⟩) hle _)).setCell (p := ⟨NA, 2, none⟩) hle _)).setCell (p := ⟨NA, 3, none⟩) hle _)).setCell (p := ⟨NA, 4, none⟩) hle _), ?_⟩
      refine wpX_world (fun w' => Mid w F p b ⟨ksl, ktx, ksm⟩ odd D2 F2 [(NQ, #[.int .i64 (o : Int), .string ⟨tx.toArray⟩, .string ⟨Y.toArray⟩], 90)] w' ∧ N0 ≤ w'.heap.size) ⟨((((((((((HM3.out.1.tail).put (a := ⟨NA, 0, none⟩) _ hNX hX)).put (a := ⟨NA, 1, none⟩) _ hNX hX)).put (a := ⟨NA, 2, none⟩) _ hNX hX)).put (a := ⟨NA, 3, none⟩) _ hNX hX)).put (a := ⟨NA, 4, none⟩) _ hNX hX), ?hsz⟩ ?_
      case hsz => simp only [World.setCell, Array.size_modify]; exact HM3.out.2
      clear hNX hX hle
      rintro w9 hm
      have HM9 := Hd.mk hm
      clear hm
      refine wpX_reads [15] (lst [1,1,1,1,1,1,1,1,1,1,1,1,1,1,1,1]) 0 (by rfl) (by kernel_rfl) (fun _ _ _ _ _ h => h) ?_
      simp (decide := true) only [opsAt, List.getElem?_cons_zero, List.getElem?_cons_succ]
      repeat go_big_quiet_step (fail)
      refine wpQuiet_nil ?_
      refine wpX_done (by kernel_rfl) ?_
      clear HNA hent happ HX0
      have HL9 := Hd.mk (blk_lt HM9.out.1.st.blk)
      by_cases hc : c = 0
      · subst hc
        have d5 := blk_cell HM9.out.1.st.blk 5
        have f5 := blk_free HM9.out.1.st.blk 5
        simp only [stcells, List.getElem?_toArray, List.getElem?_cons_zero, List.getElem?_cons_succ] at d5
        go_wp2_with fail
        first | go_ret | skip
        rw [HP.out, ← HS.out]
        have hm := HM9.out.1.mod.set 5 (.pointer (some ⟨NQ, 0, none⟩))
        have hx := HM9.out.1.xs _ (List.mem_cons_self ..)
        refine ⟨rfl, F2, hm.d, ⟨NQ, ⟨?hst, fun q k' e => ?hq⟩, fun _ => hx.2.1⟩, hm.u, hm.f⟩
        case hst => rw [blk_set HM9.out.1.st.blk 5 (.pointer (some ⟨NQ, 0, none⟩))]; rfl
        case hq =>
          cases e
          exact ⟨blk_set_ne hx.1 _ _ hx.2.2.1, hx.2.2.1⟩
      · have hc1 : ((c : Int) != 0) = true := by rw [bne_iff_ne]; omega
        go_wp2_with fail
        first | go_ret | skip
        rw [HP.out, ← HS.out, if_neg (by simp), if_pos hc]
        exact ⟨rfl, F2, HM9.out.1.d, ⟨0, HM9.out.1.st, fun hc => absurd rfl hc⟩, HM9.out.1.u, HM9.out.1.f⟩
    · go_step
      obtain ⟨NA, hNA⟩ : ∃ n, w1.heap.size = n := ⟨_, rfl⟩
      have HNA : Hd (N0 ≤ NA) := ⟨hNA ▸ HM1.out.2⟩
      have HM2' : Hd (Mid w F p b ⟨ksl, ktx, ksm⟩ odd D1 F1 [(NA, #[.int .i64 0, .int .i64 0, .int .i64 0, .int .i64 0, .string ⟨#[]⟩], 28), (NQ, #[.int .i64 (o : Int), .string ⟨tx.toArray⟩, .string ⟨Y.toArray⟩], 90)] (w1.alloc (.cells #[.int .i64 0, .int .i64 0, .int .i64 0, .int .i64 0, .string ⟨#[]⟩] 28 (0, 0))) ∧ N0 ≤ (w1.alloc (.cells #[.int .i64 0, .int .i64 0, .int .i64 0, .int .i64 0, .string ⟨#[]⟩] 28 (0, 0))).heap.size) := ⟨hNA ▸ HM1.out.1.new #[.int .i64 0, .int .i64 0, .int .i64 0, .int .i64 0, .string ⟨#[]⟩] 28, by rw [sz_alloc]; exact Nat.le_succ_of_le HM1.out.2⟩
      refine ⟨fun _ => (Below.refl _ _).alloc HM1.out.2 _, ?_⟩
      rw [hNA]
      refine wpX_world (fun w' => Mid w F p b ⟨ksl, ktx, ksm⟩ odd D1 F1 [(NA, #[.int .i64 0, .int .i64 0, .int .i64 0, .int .i64 0, .string ⟨#[]⟩], 28), (NQ, #[.int .i64 (o : Int), .string ⟨tx.toArray⟩, .string ⟨Y.toArray⟩], 90)] w' ∧ N0 ≤ w'.heap.size) HM2'.out ?_
      clear HM2'
      rintro w2 hm
      have HM2 := Hd.mk hm
      clear hm hNA
      refine wpX_ready (rs := [9]) (by kernel_rfl) (by simp) ?_
      refine AllX.cons rfl (lst [1,1,1,1,1,1,1,1,1,1,0,0,0,1,0,0]) (by kernel_rfl) (by rfl) ?_ AllX.nil
      go_step
      refine (happ _ _ HM2.out.1.d).mono ?_
      rintro e w3 ⟨rfl, F2, hi, hu, hf⟩
      have HM3 : Hd (Mid w F p b ⟨ksl, ktx, ksm⟩ odd D2 F2 [(NA, #[.int .i64 0, .int .i64 0, .int .i64 0, .int .i64 0, .string ⟨#[]⟩], 28), (NQ, #[.int .i64 (o : Int), .string ⟨tx.toArray⟩, .string ⟨Y.toArray⟩], 90)] w3 ∧ N0 ≤ w3.heap.size) := ⟨HM2.out.1.app hi hu hf, Nat.le_trans HM2.out.2 hu.size⟩
      refine ⟨fun hc => (by cases hc), ?_⟩
      clear hi hu hf
      refine wpX_reads [10, 11, 12] (lst [1,1,1,1,1,1,1,1,1,1,1,1,1,1,0,0]) 2 (by rfl) (by kernel_rfl) (fun _ _ _ _ _ h => h) ?_
      simp (decide := true) only [opsAt, List.getElem?_cons_zero, List.getElem?_cons_succ]
      repeat go_big_quiet_step (fail)
      refine wpQuiet_nil ?_
      refine wpX_ready (rs := [14]) (by kernel_rfl) (by simp) ?_
      refine AllX.cons rfl (lst [1,1,1,1,1,1,1,1,1,1,1,1,1,1,1,0]) (by kernel_rfl) (by rfl) ?_ AllX.nil
      have hN := (HM3.out.1.xs _ (List.mem_cons_self ..)).1
      have d0 := blk_cell hN 0
      have f0 := blk_free hN 0
      have d1 := blk_cell hN 1
      have f1 := blk_free hN 1
      have d2 := blk_cell hN 2
      have f2 := blk_free hN 2
      have d3 := blk_cell hN 3
      have f3 := blk_free hN 3
      have d4 := blk_cell hN 4
      have f4 := blk_free hN 4
      simp only [List.getElem?_toArray, List.getElem?_cons_zero, List.getElem?_cons_succ] at d0 d1 d2 d3 d4
      have hNX := (HM3.out.1.xs _ (List.mem_cons_self ..)).2
      clear hN
      go_step
      clear d0 d1 d2 d3 d4 f0 f1 f2 f3 f4
      have hX : ∀ e ∈ ([(NQ, #[.int .i64 (o : Int), .string ⟨tx.toArray⟩, .string ⟨Y.toArray⟩], 90)] : List (Nat × Array Value × TypeId)), e.1 ≠ NA := by
        intro e he
        have h2 := HNA.out; have h3 := HX0.out; simp only [List.mem_singleton] at he; subst he; show _ ≠ NA; omega
      have hle := HNA.out
      refine ⟨fun _ => ((((((((((Below.refl _ _).setCell (p := ⟨NA, 0, none⟩) hle _)).setCell (p := ⟨NA, 1, none⟩) hle _)).setCell (p := ⟨NA, 2, none⟩) hle _)).setCell (p := ⟨NA, 3, none⟩) hle _)).setCell (p := ⟨NA, 4, none⟩) hle _), ?_⟩
      refine wpX_world (fun w' => Mid w F p b ⟨ksl, ktx, ksm⟩ odd D2 F2 [(NQ, #[.int .i64 (o : Int), .string ⟨tx.toArray⟩, .string ⟨Y.toArray⟩], 90)] w' ∧ N0 ≤ w'.heap.size) ⟨((((((((((HM3.out.1.tail).put (a := ⟨NA, 0, none⟩) _ hNX hX)).put (a := ⟨NA, 1, none⟩) _ hNX hX)).put (a := ⟨NA, 2, none⟩) _ hNX hX)).put (a := ⟨NA, 3, none⟩) _ hNX hX)).put (a := ⟨NA, 4, none⟩) _ hNX hX), ?hsz⟩ ?_
      case hsz => simp only [World.setCell, Array.size_modify]; exact HM3.out.2
      clear hNX hX hle
      rintro w9 hm
      have HM9 := Hd.mk hm
      clear hm
      refine wpX_reads [15] (lst [1,1,1,1,1,1,1,1,1,1,1,1,1,1,1,1]) 0 (by rfl) (by kernel_rfl) (fun _ _ _ _ _ h => h) ?_
      simp (decide := true) only [opsAt, List.getElem?_cons_zero, List.getElem?_cons_succ]
      repeat go_big_quiet_step (fail)
      refine wpQuiet_nil ?_
      refine wpX_done (by kernel_rfl) ?_
      clear HNA hent happ HX0
      have HL9 := Hd.mk (blk_lt HM9.out.1.st.blk)
      by_cases hc : c = 0
      · subst hc
        have d5 := blk_cell HM9.out.1.st.blk 5
        have f5 := blk_free HM9.out.1.st.blk 5
        simp only [stcells, List.getElem?_toArray, List.getElem?_cons_zero, List.getElem?_cons_succ] at d5
        go_wp2_with fail
        first | go_ret | skip
        rw [HP.out, ← HS.out]
        have hm := HM9.out.1.mod.set 5 (.pointer (some ⟨NQ, 0, none⟩))
        have hx := HM9.out.1.xs _ (List.mem_cons_self ..)
        refine ⟨rfl, F2, hm.d, ⟨NQ, ⟨?hst, fun q k' e => ?hq⟩, fun _ => hx.2.1⟩, hm.u, hm.f⟩
        case hst => rw [blk_set HM9.out.1.st.blk 5 (.pointer (some ⟨NQ, 0, none⟩))]; rfl
        case hq =>
          cases e
          exact ⟨blk_set_ne hx.1 _ _ hx.2.2.1, hx.2.2.1⟩
      · have hc1 : ((c : Int) != 0) = true := by rw [bne_iff_ne]; omega
        go_wp2_with fail
        first | go_ret | skip
        rw [HP.out, ← HS.out, if_neg (by simp), if_pos hc]
        exact ⟨rfl, F2, HM9.out.1.d, ⟨0, HM9.out.1.st, fun hc => absurd rfl hc⟩, HM9.out.1.u, HM9.out.1.f⟩
  · go_step
    obtain ⟨NA, hNA⟩ : ∃ n, w0.heap.size = n := ⟨_, rfl⟩
    have HNA : Hd (N0 ≤ NA) := ⟨hNA ▸ HM0.out.2⟩
    have HM1' : Hd (Mid w F p b ⟨ksl, ktx, ksm⟩ odd D1 F1 [(NA, #[.int .i64 0, .int .i64 0, .int .i64 0, .int .i64 0, .string ⟨#[]⟩], 28), (NQ, #[.int .i64 (o : Int), .string ⟨tx.toArray⟩, .string ⟨Y.toArray⟩], 90)] (w0.alloc (.cells #[.int .i64 0, .int .i64 0, .int .i64 0, .int .i64 0, .string ⟨#[]⟩] 28 (0, 0))) ∧ N0 ≤ (w0.alloc (.cells #[.int .i64 0, .int .i64 0, .int .i64 0, .int .i64 0, .string ⟨#[]⟩] 28 (0, 0))).heap.size) := ⟨hNA ▸ HM0.out.1.new #[.int .i64 0, .int .i64 0, .int .i64 0, .int .i64 0, .string ⟨#[]⟩] 28, by rw [sz_alloc]; exact Nat.le_succ_of_le HM0.out.2⟩
    refine ⟨fun _ => (Below.refl _ _).alloc HM0.out.2 _, ?_⟩
    rw [hNA]
    refine wpX_world (fun w' => Mid w F p b ⟨ksl, ktx, ksm⟩ odd D1 F1 [(NA, #[.int .i64 0, .int .i64 0, .int .i64 0, .int .i64 0, .string ⟨#[]⟩], 28), (NQ, #[.int .i64 (o : Int), .string ⟨tx.toArray⟩, .string ⟨Y.toArray⟩], 90)] w' ∧ N0 ≤ w'.heap.size) HM1'.out ?_
    clear HM1'
    rintro w1 hm
    have HM1 := Hd.mk hm
    clear hm hNA
    refine wpX_ready (rs := [8]) (by kernel_rfl) (by simp) ?_
    refine AllX.cons rfl (lst [1,1,1,1,1,1,1,1,1,0,0,0,0,1,0,0]) (by kernel_rfl) (by rfl) ?_ AllX.nil
    go_step
    refine (hent _).mono ?_
    rintro e w2 ⟨rfl, hb⟩
    have HM2 : Hd (Mid w F p b ⟨ksl, ktx, ksm⟩ odd D1 F1 [(NA, #[.int .i64 0, .int .i64 0, .int .i64 0, .int .i64 0, .string ⟨#[]⟩], 28), (NQ, #[.int .i64 (o : Int), .string ⟨tx.toArray⟩, .string ⟨Y.toArray⟩], 90)] w2 ∧ N0 ≤ w2.heap.size) := ⟨HM1.out.1.ext hb, Nat.le_trans HM1.out.2 hb.size⟩
    refine ⟨fun _ => hb.mono HM1.out.2, ?_⟩
    clear hb
    refine wpX_ready (rs := [9]) (by kernel_rfl) (by simp) ?_
    refine AllX.cons rfl (lst [1,1,1,1,1,1,1,1,1,1,0,0,0,1,0,0]) (by kernel_rfl) (by rfl) ?_ AllX.nil
    go_step
    refine (happ _ _ HM2.out.1.d).mono ?_
    rintro e w3 ⟨rfl, F2, hi, hu, hf⟩
    have HM3 : Hd (Mid w F p b ⟨ksl, ktx, ksm⟩ odd D2 F2 [(NA, #[.int .i64 0, .int .i64 0, .int .i64 0, .int .i64 0, .string ⟨#[]⟩], 28), (NQ, #[.int .i64 (o : Int), .string ⟨tx.toArray⟩, .string ⟨Y.toArray⟩], 90)] w3 ∧ N0 ≤ w3.heap.size) := ⟨HM2.out.1.app hi hu hf, Nat.le_trans HM2.out.2 hu.size⟩
    refine ⟨fun hc => (by cases hc), ?_⟩
    clear hi hu hf
    refine wpX_reads [10, 11, 12] (lst [1,1,1,1,1,1,1,1,1,1,1,1,1,1,0,0]) 2 (by rfl) (by kernel_rfl) (fun _ _ _ _ _ h => h) ?_
    simp (decide := true) only [opsAt, List.getElem?_cons_zero, List.getElem?_cons_succ]
    repeat go_big_quiet_step (fail)
    refine wpQuiet_nil ?_
    refine wpX_ready (rs := [14]) (by kernel_rfl) (by simp) ?_
    refine AllX.cons rfl (lst [1,1,1,1,1,1,1,1,1,1,1,1,1,1,1,0]) (by kernel_rfl) (by rfl) ?_ AllX.nil
    have hN := (HM3.out.1.xs _ (List.mem_cons_self ..)).1
    have d0 := blk_cell hN 0
    have f0 := blk_free hN 0
    have d1 := blk_cell hN 1
    have f1 := blk_free hN 1
    have d2 := blk_cell hN 2
    have f2 := blk_free hN 2
    have d3 := blk_cell hN 3
    have f3 := blk_free hN 3
    have d4 := blk_cell hN 4
    have f4 := blk_free hN 4
    simp only [List.getElem?_toArray, List.getElem?_cons_zero, List.getElem?_cons_succ] at d0 d1 d2 d3 d4
    have hNX := (HM3.out.1.xs _ (List.mem_cons_self ..)).2
    clear hN
    go_step
    clear d0 d1 d2 d3 d4 f0 f1 f2 f3 f4
    have hX : ∀ e ∈ ([(NQ, #[.int .i64 (o : Int), .string ⟨tx.toArray⟩, .string ⟨Y.toArray⟩], 90)] : List (Nat × Array Value × TypeId)), e.1 ≠ NA := by
      intro e he
      have h2 := HNA.out; have h3 := HX0.out; simp only [List.mem_singleton] at he; subst he; show _ ≠ NA; omega
    have hle := HNA.out
    refine ⟨fun _ => ((((((((((Below.refl _ _).setCell (p := ⟨NA, 0, none⟩) hle _)).setCell (p := ⟨NA, 1, none⟩) hle _)).setCell (p := ⟨NA, 2, none⟩) hle _)).setCell (p := ⟨NA, 3, none⟩) hle _)).setCell (p := ⟨NA, 4, none⟩) hle _), ?_⟩
    refine wpX_world (fun w' => Mid w F p b ⟨ksl, ktx, ksm⟩ odd D2 F2 [(NQ, #[.int .i64 (o : Int), .string ⟨tx.toArray⟩, .string ⟨Y.toArray⟩], 90)] w' ∧ N0 ≤ w'.heap.size) ⟨((((((((((HM3.out.1.tail).put (a := ⟨NA, 0, none⟩) _ hNX hX)).put (a := ⟨NA, 1, none⟩) _ hNX hX)).put (a := ⟨NA, 2, none⟩) _ hNX hX)).put (a := ⟨NA, 3, none⟩) _ hNX hX)).put (a := ⟨NA, 4, none⟩) _ hNX hX), ?hsz⟩ ?_
    case hsz => simp only [World.setCell, Array.size_modify]; exact HM3.out.2
    clear hNX hX hle
    rintro w9 hm
    have HM9 := Hd.mk hm
    clear hm
    refine wpX_reads [15] (lst [1,1,1,1,1,1,1,1,1,1,1,1,1,1,1,1]) 0 (by rfl) (by kernel_rfl) (fun _ _ _ _ _ h => h) ?_
    simp (decide := true) only [opsAt, List.getElem?_cons_zero, List.getElem?_cons_succ]
    repeat go_big_quiet_step (fail)
    refine wpQuiet_nil ?_
    refine wpX_done (by kernel_rfl) ?_
    clear HNA hent happ HX0
    have HL9 := Hd.mk (blk_lt HM9.out.1.st.blk)
    by_cases hc : c = 0
    · subst hc
      have d5 := blk_cell HM9.out.1.st.blk 5
      have f5 := blk_free HM9.out.1.st.blk 5
      simp only [stcells, List.getElem?_toArray, List.getElem?_cons_zero, List.getElem?_cons_succ] at d5
      go_wp2_with fail
      first | go_ret | skip
      rw [HP.out, ← HS.out]
      have hm := HM9.out.1.mod.set 5 (.pointer (some ⟨NQ, 0, none⟩))
      have hx := HM9.out.1.xs _ (List.mem_cons_self ..)
      refine ⟨rfl, F2, hm.d, ⟨NQ, ⟨?hst, fun q k' e => ?hq⟩, fun _ => hx.2.1⟩, hm.u, hm.f⟩
      case hst => rw [blk_set HM9.out.1.st.blk 5 (.pointer (some ⟨NQ, 0, none⟩))]; rfl
      case hq =>
        cases e
        exact ⟨blk_set_ne hx.1 _ _ hx.2.2.1, hx.2.2.1⟩
    · have hc1 : ((c : Int) != 0) = true := by rw [bne_iff_ne]; omega
      go_wp2_with fail
      first | go_ret | skip
      rw [HP.out, ← HS.out, if_neg (by simp), if_pos hc]
      exact ⟨rfl, F2, HM9.out.1.d, ⟨0, HM9.out.1.st, fun hc => absurd rfl hc⟩, HM9.out.1.u, HM9.out.1.f⟩
end
end Go.Proofs.Ytkdakmddlkgjkaa
