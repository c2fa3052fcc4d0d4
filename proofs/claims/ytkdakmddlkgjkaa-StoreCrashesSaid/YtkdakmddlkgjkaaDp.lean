import Derived.Test.YtkdakmddlkgjkaaMd
open Go.RowKit Go.Lib
namespace Go.Proofs.Ytkdakmddlkgjkaa
set_option maxRecDepth 100000
open Sha
/-! store.Drop. -/
section
variable {w : World} {p b : Nat} {k : Kp} {odd : Bool}
theorem sdrop_nil (w : World) : Calls Try.prog 47 #[.pointer none] w fun e w' => e = .returned (.int .i64 16) ∧ Below w.heap.size w w' := by
  have ht := stake_nil w
  change Calls Try.prog _ _ w fun e w' => e = .returned (.tuple #[.agg #[.int .i64 0, .string ⟨#[]⟩, .string ⟨#[]⟩], .int .i64 16]) ∧ Below w.heap.size w w' at ht
  go_enter Try.func47, Try.ntmps47
  go_wp2_with fail
  refine ht.mono ?_
  rintro e w1 ⟨rfl, hb⟩
  have B1 := Hd.mk hb
  clear hb ht
  go_wp2_with fail
  go_ret
  exact ⟨rfl, B1.out.alloc B1.out.size _⟩
theorem sdrop_no (h : StAt w p b k odd none) : Calls Try.prog 47 #[.pointer (some ⟨p, 0, none⟩)] w fun e w' => e = .returned (.int .i64 8) ∧ Below w.heap.size w w' := by
  have ht := stake_no h
  change Calls Try.prog _ _ w fun e w' => e = .returned (.tuple #[.agg #[.int .i64 0, .string ⟨#[]⟩, .string ⟨#[]⟩], .int .i64 8]) ∧ Below w.heap.size w w' at ht
  clear h
  go_enter Try.func47, Try.ntmps47
  go_wp2_with fail
  refine ht.mono ?_
  rintro e w1 ⟨rfl, hb⟩
  have B1 := Hd.mk hb
  clear hb ht
  go_wp2_with fail
  go_ret
  exact ⟨rfl, B1.out.alloc B1.out.size _⟩
set_option maxHeartbeats 2000000 in
theorem sdrop_yes {D : Ds} {F : Nat → Prop} {q : Nat} {k2 : Kp} (hd : IsDisk w b D F) (hp : ¬ F p) (hops : D.ops + 2 < 1000000000) (hgh : D.gh + 1 < 1000000000) (hl : k.tx.length < 1000000) (h : StAt w p b k odd (some (q, k2))) :
    Calls Try.prog 47 #[.pointer (some ⟨p, 0, none⟩)] w fun e w' => e = .returned (.int .i64 ((app D (k.ent 3)).1 : Nat)) ∧ ∃ F', IsDisk w' b (app D (k.ent 3)).2.2 F' ∧ StAt w' p b k odd none ∧ Upd (fun i => F i ∨ i = p) w w' ∧ ∀ i, F' i → F i ∨ w.heap.size ≤ i := by
  have ht := stake_yes h
  have hent := fun w => kent_c k 3 w (by omega)
  have happ := fun w' (hd' : IsDisk w' b D F) => append_c hd' hops hgh (k.ent 3)
  obtain ⟨A, hA⟩ : ∃ A, app D (k.ent 3) = A := ⟨_, rfl⟩
  rw [hA] at happ ⊢
  obtain ⟨ksl, ktx, ksm⟩ := k
  obtain ⟨sl, tx, sm⟩ := k2
  obtain ⟨c, ⟨ak, an, al, az, aS⟩, D2⟩ := A
  change Calls Try.prog _ _ w fun e w' => e = .returned (.tuple #[.agg #[.int .i64 sl, .string ⟨tx.toArray⟩, .string ⟨sm.toArray⟩], .int .i64 0]) ∧ StAt w' p b ⟨ksl, ktx, ksm⟩ odd none ∧ Upd (fun i => i = p) w w' at ht
  change ∀ w, Calls Try.prog 73 #[.agg #[.int .i64 ksl, .string ⟨ktx.toArray⟩, .string ⟨ksm.toArray⟩], .int .i64 3] w fun e w' => e = .returned (.agg #[.int .i64 3, .int .i64 0, .int .i64 ksl, .int .i64 (ktx.length : Int), .string ⟨ksm.toArray⟩]) ∧ Below w.heap.size w w' at hent
  change ∀ w', IsDisk w' b D F → Calls Try.prog 23 #[.pointer (some ⟨b, 0, none⟩), .agg #[.int .i64 3, .int .i64 0, .int .i64 ksl, .int .i64 (ktx.length : Int), .string ⟨ksm.toArray⟩]] w' fun r w2 => r = .returned (.tuple #[.agg #[.int .i64 ak, .int .i64 an, .int .i64 al, .int .i64 az, .string ⟨aS.toArray⟩], .int .i64 (c : Int)]) ∧ ∃ F', IsDisk w2 b D2 F' ∧ Upd F w' w2 ∧ ∀ i, F' i → F i ∨ w'.heap.size ≤ i at happ
  show Calls Try.prog _ _ w fun e w' => e = .returned (.int .i64 (c : Int)) ∧ ∃ F', IsDisk w' b D2 F' ∧ StAt w' p b ⟨ksl, ktx, ksm⟩ odd none ∧ Upd (fun i => F i ∨ i = p) w w' ∧ ∀ i, F' i → F i ∨ w.heap.size ≤ i
  obtain ⟨P, hP⟩ : ∃ P : Ending → World → Prop, P = fun e w' => e = .returned (.int .i64 (c : Int)) ∧ ∃ F', IsDisk w' b D2 F' ∧ StAt w' p b ⟨ksl, ktx, ksm⟩ odd none ∧ Upd (fun i => F i ∨ i = p) w w' ∧ ∀ i, F' i → F i ∨ w.heap.size ≤ i := ⟨_, rfl⟩
  rw [← hP]
  have HP := Hd.mk hP
  have HD := Hd.mk hd
  have HPF := Hd.mk hp
  clear hP hA hd hp h hl hops hgh
  go_enter Try.func47, Try.ntmps47
  go_wp2_with fail
  refine ht.mono ?_
  rintro e w1 ⟨rfl, h1, h2⟩
  have S1 := Hd.mk h1
  have U1 := Hd.mk h2
  clear h1 h2 ht
  obtain ⟨N1, hN1⟩ : ∃ N1, w1.heap.size = N1 := ⟨_, rfl⟩
  go_upto_region 4 with fail
  have HM1 : Hd (Mid w F p b ⟨ksl, ktx, ksm⟩ odd D F [] (w1.alloc (.cells #[.int .i64 sl, .string ⟨tx.toArray⟩, .string ⟨sm.toArray⟩] 90 (0, 0)))) := ⟨(show Mid w F p b ⟨ksl, ktx, ksm⟩ odd D F [] w1 from ⟨S1.out, HD.out.upd U1.out fun i hi he => HPF.out (he ▸ hi), U1.out.mono fun i _ h => .inr h, fun i h => .inl h, HPF.out, fun e he => by cases he⟩).ext ((Below.refl _ _).alloc (Nat.le_refl _) _)⟩
  obtain ⟨N0, hN0⟩ : ∃ n, (w1.alloc (.cells #[.int .i64 sl, .string ⟨tx.toArray⟩, .string ⟨sm.toArray⟩] 90 (0, 0))).heap.size = n := ⟨_, rfl⟩
  have HP0 : Hd (p < N0) := ⟨by have h := blk_lt S1.out.blk; rw [← hN0, sz_alloc]; exact Nat.lt_succ_of_lt h⟩
  refine wp_world (fun w2 => Mid w F p b ⟨ksl, ktx, ksm⟩ odd D F [] w2 ∧ N0 ≤ w2.heap.size) ⟨HM1.out, Nat.le_of_eq hN0.symm⟩ ?_
  clear S1 U1 HM1 hN0
  rintro w2 hm
  have HM2 := Hd.mk hm
  clear hm
  refine region_X N0 [0, 0, 0, 0, 0, 0, 0, 0, 2, 1, 0, 0, 0, 2, 2, 0] (lst [0, 0, 0, 0, 0, 0, 0, 0, 0, 0, 0, 0, 0, 0, 0, 0]) 16 (by kernel_rfl) (by kernel_rfl) (by kernel_rfl) ?_
  refine wpX_reads [0, 1, 2, 3, 4, 5, 6, 7] (lst [1,1,1,1,1,1,1,1,0,0,0,0,0,0,0,0]) 8 (by rfl) (by kernel_rfl) (fun _ _ _ _ _ h => h) ?_
  have c0 := fun x : Later (BelN N0) w2.drew => blk_cell (later_blkN (blk_drew HM2.out.1.st.blk) HP0.out x) 0
  have c1 := fun x : Later (BelN N0) w2.drew => blk_cell (later_blkN (blk_drew HM2.out.1.st.blk) HP0.out x) 1
  have c2 := fun x : Later (BelN N0) w2.drew => blk_cell (later_blkN (blk_drew HM2.out.1.st.blk) HP0.out x) 2
  have c3 := fun x : Later (BelN N0) w2.drew => blk_cell (later_blkN (blk_drew HM2.out.1.st.blk) HP0.out x) 3
  simp only [stcells, List.getElem?_toArray, List.getElem?_cons_zero, List.getElem?_cons_succ] at c0 c1 c2 c3
  simp (decide := true) only [opsAt, List.getElem?_cons_zero, List.getElem?_cons_succ]
  repeat go_big_quiet_step (fail)
  refine wpQuiet_nil ?_
  refine wpX_world (fun w' => Mid w F p b ⟨ksl, ktx, ksm⟩ odd D F [] w' ∧ N0 ≤ w'.heap.size) ⟨HM2.out.1.drew, HM2.out.2⟩ ?_
  rintro w0 hm
  have HM0 := Hd.mk hm
  clear hm HM2
  refine wpX_ready (rs := [8, 13]) (by kernel_rfl) (by simp) ?_
  refine AllX.cons rfl (lst [1,1,1,1,1,1,1,1,1,0,0,0,0,0,0,0]) (by kernel_rfl) (by rfl) ?_ (AllX.cons rfl (lst [1,1,1,1,1,1,1,1,0,0,0,0,0,1,0,0]) (by kernel_rfl) (by rfl) ?_ AllX.nil)
  · go_step
    refine (hent _).mono ?_
    rintro e w1 ⟨rfl, hb⟩
    have HM1 : Hd (Mid w F p b ⟨ksl, ktx, ksm⟩ odd D F [] w1 ∧ N0 ≤ w1.heap.size) := ⟨HM0.out.1.ext hb, Nat.le_trans HM0.out.2 hb.size⟩
    refine ⟨fun _ => hb.mono HM0.out.2, ?_⟩
    clear hb
    refine wpX_ready (rs := [9, 13]) (by kernel_rfl) (by simp) ?_
    refine AllX.cons rfl (lst [1,1,1,1,1,1,1,1,1,1,0,0,0,0,0,0]) (by kernel_rfl) (by rfl) ?_ (AllX.cons rfl (lst [1,1,1,1,1,1,1,1,1,0,0,0,0,1,0,0]) (by kernel_rfl) (by rfl) ?_ AllX.nil)
    · go_step
      refine (happ _ HM1.out.1.d).mono ?_
      rintro e w2 ⟨rfl, F2, hi, hu, hf⟩
      have HM2 : Hd (Mid w F p b ⟨ksl, ktx, ksm⟩ odd D2 F2 [] w2 ∧ N0 ≤ w2.heap.size) := ⟨HM1.out.1.app hi hu hf, Nat.le_trans HM1.out.2 hu.size⟩
      refine ⟨fun hc => (by cases hc), ?_⟩
      clear hi hu hf
      refine wpX_reads [10, 11, 12] (lst [1,1,1,1,1,1,1,1,1,1,1,1,1,0,0,0]) 3 (by rfl) (by kernel_rfl) (fun _ _ _ _ _ h => h) ?_
      simp (decide := true) only [opsAt, List.getElem?_cons_zero, List.getElem?_cons_succ]
      repeat go_big_quiet_step (fail)
      refine wpQuiet_nil ?_
      refine wpX_ready (rs := [13]) (by kernel_rfl) (by simp) ?_
      refine AllX.cons rfl (lst [1,1,1,1,1,1,1,1,1,1,1,1,1,1,0,0]) (by kernel_rfl) (by rfl) ?_ AllX.nil
      go_step
      obtain ⟨NA, hNA⟩ : ∃ n, w2.heap.size = n := ⟨_, rfl⟩
      have HNA : Hd (N0 ≤ NA) := ⟨hNA ▸ HM2.out.2⟩
      have HM3' : Hd (Mid w F p b ⟨ksl, ktx, ksm⟩ odd D2 F2 [(NA, #[.int .i64 0, .int .i64 0, .int .i64 0, .int .i64 0, .string ⟨#[]⟩], 28)] (w2.alloc (.cells #[.int .i64 0, .int .i64 0, .int .i64 0, .int .i64 0, .string ⟨#[]⟩] 28 (0, 0))) ∧ N0 ≤ (w2.alloc (.cells #[.int .i64 0, .int .i64 0, .int .i64 0, .int .i64 0, .string ⟨#[]⟩] 28 (0, 0))).heap.size) := ⟨hNA ▸ HM2.out.1.new #[.int .i64 0, .int .i64 0, .int .i64 0, .int .i64 0, .string ⟨#[]⟩] 28, by rw [sz_alloc]; exact Nat.le_succ_of_le HM2.out.2⟩
      refine ⟨fun _ => (Below.refl _ _).alloc HM2.out.2 _, ?_⟩
      rw [hNA]
      refine wpX_world (fun w' => Mid w F p b ⟨ksl, ktx, ksm⟩ odd D2 F2 [(NA, #[.int .i64 0, .int .i64 0, .int .i64 0, .int .i64 0, .string ⟨#[]⟩], 28)] w' ∧ N0 ≤ w'.heap.size) HM3'.out ?_
      clear HM3'
      rintro w3 hm
      have HM3 := Hd.mk hm
      clear hm hNA
      refine wpX_ready (rs := [14]) (by kernel_rfl) (by simp) ?_
      refine AllX.cons rfl (lst [1,1,1,1,1,1,1,1,1,1,1,1,1,1,1,0]) (by kernel_rfl) (by rfl) ?_ AllX.nil
      have hN := (HM3.out.1.xs _ (List.mem_cons_self ..)).1
      have d0 := blk_cell hN 0
      have f0 := blk_free hN 0
      have d1 := blk_cell hN 1
      have f1 := blk_free hN 1
      have d2 := blk_cell hN 2
      have f2 := blk_free hN 2
      have d3 := blk_cell hN 3
      have f3 := blk_free hN 3
      have d4 := blk_cell hN 4
      have f4 := blk_free hN 4
      simp only [List.getElem?_toArray, List.getElem?_cons_zero, List.getElem?_cons_succ] at d0 d1 d2 d3 d4
      have hNX := (HM3.out.1.xs _ (List.mem_cons_self ..)).2
      clear hN
      go_step
      clear d0 d1 d2 d3 d4 f0 f1 f2 f3 f4
      have hX : ∀ e ∈ ([] : List (Nat × Array Value × TypeId)), e.1 ≠ NA := by
        intro e he
        cases he
      have hle := HNA.out
      refine ⟨fun _ => ((((((((((Below.refl _ _).setCell (p := ⟨NA, 0, none⟩) hle _)).setCell (p := ⟨NA, 1, none⟩) hle _)).setCell (p := ⟨NA, 2, none⟩) hle _)).setCell (p := ⟨NA, 3, none⟩) hle _)).setCell (p := ⟨NA, 4, none⟩) hle _), ?_⟩
      refine wpX_world (fun w' => Mid w F p b ⟨ksl, ktx, ksm⟩ odd D2 F2 [] w' ∧ N0 ≤ w'.heap.size) ⟨((((((((((HM3.out.1.tail).put (a := ⟨NA, 0, none⟩) _ hNX hX)).put (a := ⟨NA, 1, none⟩) _ hNX hX)).put (a := ⟨NA, 2, none⟩) _ hNX hX)).put (a := ⟨NA, 3, none⟩) _ hNX hX)).put (a := ⟨NA, 4, none⟩) _ hNX hX), ?hsz⟩ ?_
      case hsz => simp only [World.setCell, Array.size_modify]; exact HM3.out.2
      clear hNX hX hle
      rintro w9 hm
      have HM9 := Hd.mk hm
      clear hm
      refine wpX_reads [15] (lst [1,1,1,1,1,1,1,1,1,1,1,1,1,1,1,1]) 0 (by rfl) (by kernel_rfl) (fun _ _ _ _ _ h => h) ?_
      simp (decide := true) only [opsAt, List.getElem?_cons_zero, List.getElem?_cons_succ]
      repeat go_big_quiet_step (fail)
      refine wpQuiet_nil ?_
      refine wpX_done (by kernel_rfl) ?_
      clear HNA hent happ
      go_wp2_with fail
      first | go_ret | skip
      rw [HP.out]
      exact ⟨rfl, F2, HM9.out.1.d, HM9.out.1.st, HM9.out.1.u, HM9.out.1.f⟩
    · go_step
      obtain ⟨NA, hNA⟩ : ∃ n, w1.heap.size = n := ⟨_, rfl⟩
      have HNA : Hd (N0 ≤ NA) := ⟨hNA ▸ HM1.out.2⟩
      have HM2' : Hd (Mid w F p b ⟨ksl, ktx, ksm⟩ odd D F [(NA, #[.int .i64 0, .int .i64 0, .int .i64 0, .int .i64 0, .string ⟨#[]⟩], 28)] (w1.alloc (.cells #[.int .i64 0, .int .i64 0, .int .i64 0, .int .i64 0, .string ⟨#[]⟩] 28 (0, 0))) ∧ N0 ≤ (w1.alloc (.cells #[.int .i64 0, .int .i64 0, .int .i64 0, .int .i64 0, .string ⟨#[]⟩] 28 (0, 0))).heap.size) := ⟨hNA ▸ HM1.out.1.new #[.int .i64 0, .int .i64 0, .int .i64 0, .int .i64 0, .string ⟨#[]⟩] 28, by rw [sz_alloc]; exact Nat.le_succ_of_le HM1.out.2⟩
      refine ⟨fun _ => (Below.refl _ _).alloc HM1.out.2 _, ?_⟩
      rw [hNA]
      refine wpX_world (fun w' => Mid w F p b ⟨ksl, ktx, ksm⟩ odd D F [(NA, #[.int .i64 0, .int .i64 0, .int .i64 0, .int .i64 0, .string ⟨#[]⟩], 28)] w' ∧ N0 ≤ w'.heap.size) HM2'.out ?_
      clear HM2'
      rintro w2 hm
      have HM2 := Hd.mk hm
      clear hm hNA
      refine wpX_ready (rs := [9]) (by kernel_rfl) (by simp) ?_
      refine AllX.cons rfl (lst [1,1,1,1,1,1,1,1,1,1,0,0,0,1,0,0]) (by kernel_rfl) (by rfl) ?_ AllX.nil
      go_step
      refine (happ _ HM2.out.1.d).mono ?_
      rintro e w3 ⟨rfl, F2, hi, hu, hf⟩
      have HM3 : Hd (Mid w F p b ⟨ksl, ktx, ksm⟩ odd D2 F2 [(NA, #[.int .i64 0, .int .i64 0, .int .i64 0, .int .i64 0, .string ⟨#[]⟩], 28)] w3 ∧ N0 ≤ w3.heap.size) := ⟨HM2.out.1.app hi hu hf, Nat.le_trans HM2.out.2 hu.size⟩
      refine ⟨fun hc => (by cases hc), ?_⟩
      clear hi hu hf
      refine wpX_reads [10, 11, 12] (lst [1,1,1,1,1,1,1,1,1,1,1,1,1,1,0,0]) 2 (by rfl) (by kernel_rfl) (fun _ _ _ _ _ h => h) ?_
      simp (decide := true) only [opsAt, List.getElem?_cons_zero, List.getElem?_cons_succ]
      repeat go_big_quiet_step (fail)
      refine wpQuiet_nil ?_
      refine wpX_ready (rs := [14]) (by kernel_rfl) (by simp) ?_
      refine AllX.cons rfl (lst [1,1,1,1,1,1,1,1,1,1,1,1,1,1,1,0]) (by kernel_rfl) (by rfl) ?_ AllX.nil
      have hN := (HM3.out.1.xs _ (List.mem_cons_self ..)).1
      have d0 := blk_cell hN 0
      have f0 := blk_free hN 0
      have d1 := blk_cell hN 1
      have f1 := blk_free hN 1
      have d2 := blk_cell hN 2
      have f2 := blk_free hN 2
      have d3 := blk_cell hN 3
      have f3 := blk_free hN 3
      have d4 := blk_cell hN 4
      have f4 := blk_free hN 4
      simp only [List.getElem?_toArray, List.getElem?_cons_zero, List.getElem?_cons_succ] at d0 d1 d2 d3 d4
      have hNX := (HM3.out.1.xs _ (List.mem_cons_self ..)).2
      clear hN
      go_step
      clear d0 d1 d2 d3 d4 f0 f1 f2 f3 f4
      have hX : ∀ e ∈ ([] : List (Nat × Array Value × TypeId)), e.1 ≠ NA := by
        intro e he
        cases he
      have hle := HNA.out
      refine ⟨fun _ => ((((((((((Below.refl _ _).setCell (p := ⟨NA, 0, none⟩) hle _)).setCell (p := ⟨NA, 1, none⟩) hle _)).setCell (p := ⟨NA, 2, none⟩) hle _)).setCell (p := ⟨NA, 3, none⟩) hle _)).setCell (p := ⟨NA, 4, none⟩) hle _), ?_⟩
      refine wpX_world (fun w' => Mid w F p b ⟨ksl, ktx, ksm⟩ odd D2 F2 [] w' ∧ N0 ≤ w'.heap.size) ⟨((((((((((HM3.out.1.tail).put (a := ⟨NA, 0, none⟩) _ hNX hX)).put (a := ⟨NA, 1, none⟩) _ hNX hX)).put (a := ⟨NA, 2, none⟩) _ hNX hX)).put (a := ⟨NA, 3, none⟩) _ hNX hX)).put (a := ⟨NA, 4, none⟩) _ hNX hX), ?hsz⟩ ?_
      case hsz => simp only [World.setCell, Array.size_modify]; exact HM3.out.2
      clear hNX hX hle
      rintro w9 hm
      have HM9 := Hd.mk hm
      clear hm
      refine wpX_reads [15] (lst [1,1,1,1,1,1,1,1,1,1,1,1,1,1,1,1]) 0 (by rfl) (by kernel_rfl) (fun _ _ _ _ _ h => h) ?_
      simp (decide := true) only [opsAt, List.getElem?_cons_zero, List.getElem?_cons_succ]
      repeat go_big_quiet_step (fail)
      refine wpQuiet_nil ?_
      refine wpX_done (by kernel_rfl) ?_
      clear HNA hent happ
      go_wp2_with fail
      first | go_ret | skip
      rw [HP.out]
      exact ⟨rfl, F2, HM9.out.1.d, HM9.out.1.st, HM9.out.1.u, HM9.out.1.f⟩
  · go_step
    obtain ⟨NA, hNA⟩ : ∃ n, w0.heap.size = n := ⟨_, rfl⟩
    have HNA : Hd (N0 ≤ NA) := ⟨hNA ▸ HM0.out.2⟩
    have HM1' : Hd (Mid w F p b ⟨ksl, ktx, ksm⟩ odd D F [(NA, #[.int .i64 0, .int .i64 0, .int .i64 0, .int .i64 0, .string ⟨#[]⟩], 28)] (w0.alloc (.cells #[.int .i64 0, .int .i64 0, .int .i64 0, .int .i64 0, .string ⟨#[]⟩] 28 (0, 0))) ∧ N0 ≤ (w0.alloc (.cells #[.int .i64 0, .int .i64 0, .int .i64 0, .int .i64 0, .string ⟨#[]⟩] 28 (0, 0))).heap.size) := ⟨hNA ▸ HM0.out.1.new #[.int .i64 0, .int .i64 0, .int .i64 0, .int .i64 0, .string ⟨#[]⟩] 28, by rw [sz_alloc]; exact Nat.le_succ_of_le HM0.out.2⟩
    refine ⟨fun _ => (Below.refl _ _).alloc HM0.out.2 _, ?_⟩
    rw [hNA]
    refine wpX_world (fun w' => Mid w F p b ⟨ksl, ktx, ksm⟩ odd D F [(NA, #[.int .i64 0, .int .i64 0, .int .i64 0, .int .i64 0, .string ⟨#[]⟩], 28)] w' ∧ N0 ≤ w'.heap.size) HM1'.out ?_
    clear HM1'
    rintro w1 hm
    have HM1 := Hd.mk hm
    clear hm hNA
    refine wpX_ready (rs := [8]) (by kernel_rfl) (by simp) ?_
    refine AllX.cons rfl (lst [1,1,1,1,1,1,1,1,1,0,0,0,0,1,0,0]) (by kernel_rfl) (by rfl) ?_ AllX.nil
    go_step
    refine (hent _).mono ?_
    rintro e w2 ⟨rfl, hb⟩
    have HM2 : Hd (Mid w F p b ⟨ksl, ktx, ksm⟩ odd D F [(NA, #[.int .i64 0, .int .i64 0, .int .i64 0, .int .i64 0, .string ⟨#[]⟩], 28)] w2 ∧ N0 ≤ w2.heap.size) := ⟨HM1.out.1.ext hb, Nat.le_trans HM1.out.2 hb.size⟩
    refine ⟨fun _ => hb.mono HM1.out.2, ?_⟩
    clear hb
    refine wpX_ready (rs := [9]) (by kernel_rfl) (by simp) ?_
    refine AllX.cons rfl (lst [1,1,1,1,1,1,1,1,1,1,0,0,0,1,0,0]) (by kernel_rfl) (by rfl) ?_ AllX.nil
    go_step
    refine (happ _ HM2.out.1.d).mono ?_
    rintro e w3 ⟨rfl, F2, hi, hu, hf⟩
    have HM3 : Hd (Mid w F p b ⟨ksl, ktx, ksm⟩ odd D2 F2 [(NA, #[.int .i64 0, .int .i64 0, .int .i64 0, .int .i64 0, .string ⟨#[]⟩], 28)] w3 ∧ N0 ≤ w3.heap.size) := ⟨HM2.out.1.app hi hu hf, Nat.le_trans HM2.out.2 hu.size⟩
    refine ⟨fun hc => (by cases hc), ?_⟩
    clear hi hu hf
    refine wpX_reads [10, 11, 12] (lst [1,1,1,1,1,1,1,1,1,1,1,1,1,1,0,0]) 2 (by rfl) (by kernel_rfl) (fun _ _ _ _ _ h => h) ?_
    simp (decide := true) only [opsAt, List.getElem?_cons_zero, List.getElem?_cons_succ]
    repeat go_big_quiet_step (fail)
    refine wpQuiet_nil ?_
    refine wpX_ready (rs := [14]) (by kernel_rfl) (by simp) ?_
    refine AllX.cons rfl (lst [1,1,1,1,1,1,1,1,1,1,1,1,1,1,1,0]) (by kernel_rfl) (by rfl) ?_ AllX.nil
    have hN := (HM3.out.1.xs _ (List.mem_cons_self ..)).1
    have d0 := blk_cell hN 0
    have f0 := blk_free hN 0
    have d1 := blk_cell hN 1
    have f1 := blk_free hN 1
    have d2 := blk_cell hN 2
    have f2 := blk_free hN 2
    have d3 := blk_cell hN 3
    have f3 := blk_free hN 3
    have d4 := blk_cell hN 4
    have f4 := blk_free hN 4
    simp only [List.getElem?_toArray, List.getElem?_cons_zero, List.getElem?_cons_succ] at d0 d1 d2 d3 d4
    have hNX := (HM3.out.1.xs _ (List.mem_cons_self ..)).2
    clear hN
    go_step
    clear d0 d1 d2 d3 d4 f0 f1 f2 f3 f4
    have hX : ∀ e ∈ ([] : List (Nat × Array Value × TypeId)), e.1 ≠ NA := by
      intro e he
      cases he
    have hle := HNA.out
    refine ⟨fun _ => ((((((((((Below.refl _ _).setCell (p := ⟨NA, 0, none⟩) hle _)).setCell (p := ⟨NA, 1, none⟩) hle _)).setCell (p := ⟨NA, 2, none⟩) hle _)).setCell (p := ⟨NA, 3, none⟩) hle _)).setCell (p := ⟨NA, 4, none⟩) hle _), ?_⟩
    refine wpX_world (fun w' => Mid w F p b ⟨ksl, ktx, ksm⟩ odd D2 F2 [] w' ∧ N0 ≤ w'.heap.size) ⟨((((((((((HM3.out.1.tail).put (a := ⟨NA, 0, none⟩) _ hNX hX)).put (a := ⟨NA, 1, none⟩) _ hNX hX)).put (a := ⟨NA, 2, none⟩) _ hNX hX)).put (a := ⟨NA, 3, none⟩) _ hNX hX)).put (a := ⟨NA, 4, none⟩) _ hNX hX), ?hsz⟩ ?_
    case hsz => simp only [World.setCell, Array.size_modify]; exact HM3.out.2
    clear hNX hX hle
    rintro w9 hm
    have HM9 := Hd.mk hm
    clear hm
    refine wpX_reads [15] (lst [1,1,1,1,1,1,1,1,1,1,1,1,1,1,1,1]) 0 (by rfl) (by kernel_rfl) (fun _ _ _ _ _ h => h) ?_
    simp (decide := true) only [opsAt, List.getElem?_cons_zero, List.getElem?_cons_succ]
    repeat go_big_quiet_step (fail)
    refine wpQuiet_nil ?_
    refine wpX_done (by kernel_rfl) ?_
    clear HNA hent happ
    go_wp2_with fail
    first | go_ret | skip
    rw [HP.out]
    exact ⟨rfl, F2, HM9.out.1.d, HM9.out.1.st, HM9.out.1.u, HM9.out.1.f⟩
end
end Go.Proofs.Ytkdakmddlkgjkaa
