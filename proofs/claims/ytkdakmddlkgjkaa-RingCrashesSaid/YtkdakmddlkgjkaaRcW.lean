import Derived.Outline
import Derived.Deep.DeepCutAuto
import Derived.Test.YtkdakmddlkgjkaaRc
import Derived.Test.YtkdakmddlkgjkaaFop5
open Go.RowKit Go.Lib
namespace Go.Proofs.Ytkdakmddlkgjkaa
set_option maxRecDepth 100000
open Sha
/-! RingCrashes' walk. -/
set_option maxHeartbeats 8000000 in
theorem rcrash_c (v : Value) (w : World) (hv : Ops5 w v) : Calls Try.prog 8 #[v] w fun e w' => e = .returned (.bool true) ∧ Below w.heap.size w w' := by
  obtain ⟨av, n, c, rfl, hn, hat⟩ := hv
  have hnew := new_rx 16 (by decide) (by decide) w
  have HL0 := Hd.mk rinv_new
  obtain ⟨D0, hD0⟩ : ∃ D, Ds0 16 = D := ⟨_, rfl⟩
  rw [hD0] at hnew HL0
  have HAT := Hd.mk hat
  clear hD0 hat
  go_enter Try.func8, Try.ntmps8
  go_wp2_with fail
  refine hnew.mono ?_
  rintro e w1 ⟨b, rfl, hd⟩
  have K1 := Hd.mk (hd.push (ecell E0).toArray 28)
  clear hd hnew
  obtain ⟨BL, hBL⟩ : ∃ n, w1.heap.size = n := ⟨_, rfl⟩
  rw [hBL] at K1
  go_wp2_with fail
  go_loopw [6, 7] (fun hs i wr => ∃ (j nn : Nat) (D : Ds) (e : En), i = .int .i64 (j : Int) ∧ hs = .bool (decide (nn ≠ 0)) ∧ Hd (j ≤ 40 ∧ j ≤ n) ∧ Hd (RX w wr b D [(BL, (ecell e).toArray, 28)] []) ∧ Hd (RInv D nn e j)) (fun _ i _ => 40 - (intOf i).toNat)
  case atStart => exact ⟨0, 0, D0, E0, rfl, rfl, ⟨Nat.zero_le _, Nat.zero_le _⟩, ⟨K1.out⟩, HL0⟩
  case round =>
    clear K1 HL0
    obtain ⟨j, nn, D, e, rfl, rfl, HJ, HS, HL⟩ := hrel
    obtain ⟨V, hV⟩ : ∃ V, decide (nn ≠ 0) = V := ⟨_, rfl⟩
    rw [hV]
    have HV := Hd.mk hV
    clear hV
    by_cases hlt : j < n ∧ j < 40
    · obtain ⟨blk, off, kd, ek, en, es, ez, su, x, s, m, rfl, hblk, ⟨hc0, hc1, hc2, hc3, hc4, hc5, hc6, hc7, hc8⟩, hx, hm⟩ := HAT.out j hlt.1
      have hbel := HS.out.bel
      have c0 := (hbel.cell (p := ⟨blk, off + j * 9, none⟩) hblk).trans hc0
      have c1 := (hbel.cell (p := ⟨blk, off + j * 9 + 1, none⟩) hblk).trans hc1
      have c2 := (hbel.cell (p := ⟨blk, off + j * 9 + 2, none⟩) hblk).trans hc2
      have c3 := (hbel.cell (p := ⟨blk, off + j * 9 + 3, none⟩) hblk).trans hc3
      have c4 := (hbel.cell (p := ⟨blk, off + j * 9 + 4, none⟩) hblk).trans hc4
      have c5 := (hbel.cell (p := ⟨blk, off + j * 9 + 5, none⟩) hblk).trans hc5
      have c6 := (hbel.cell (p := ⟨blk, off + j * 9 + 6, none⟩) hblk).trans hc6
      have c7 := (hbel.cell (p := ⟨blk, off + j * 9 + 7, none⟩) hblk).trans hc7
      have c8 := (hbel.cell (p := ⟨blk, off + j * 9 + 8, none⟩) hblk).trans hc8
      have u1 : (0 : Int) ≤ (j : Int) := by omega
      have u2 : (j : Int) < (n : Int) := by omega
      have u3 : (j : Int) < 40 := by omega
      have HJ2 := Hd.mk hlt
      have HXM := Hd.mk (And.intro hx hm)
      clear hc0 hc1 hc2 hc3 hc4 hc5 hc6 hc7 hc8 hbel hlt hx hm
      obtain ⟨lk, ln, lsl, lsz, lsum⟩ := e
      have hnum : ln = (nn : Int) := HL.out.num
      subst hnum
      have HS0 : Hd (RX w wr b D [(BL, #[.int .i64 lk, .int .i64 (nn : Int), .int .i64 lsl, .int .i64 lsz, .string ⟨lsum.toArray⟩], 28)] []) := ⟨HS.out⟩
      obtain ⟨NO, hNO⟩ : ∃ NO, wr.heap.size = NO := ⟨_, rfl⟩
      have hpu := HS0.out.push #[.int .i64 kd, .int .i64 ek, .int .i64 en, .int .i64 es, .int .i64 ez, .string ⟨su.toArray⟩, .int .i64 x, .string ⟨s.toArray⟩, .int .u64 (m : Int)] 59
      rw [hNO] at hpu
      have HS1 : Hd (RX w (wr.alloc (.cells #[.int .i64 kd, .int .i64 ek, .int .i64 en, .int .i64 es, .int .i64 ez, .string ⟨su.toArray⟩, .int .i64 x, .string ⟨s.toArray⟩, .int .u64 (m : Int)] 59 (0, 0))) b D [(NO, #[.int .i64 kd, .int .i64 ek, .int .i64 en, .int .i64 es, .int .i64 ez, .string ⟨su.toArray⟩, .int .i64 x, .string ⟨s.toArray⟩, .int .u64 (m : Int)], 59), (BL, #[.int .i64 lk, .int .i64 (nn : Int), .int .i64 lsl, .int .i64 lsz, .string ⟨lsum.toArray⟩], 28)] []) := ⟨hpu⟩
      clear hpu HS HS0
      obtain ⟨r3, hr3⟩ : ∃ r : Nat, (if x < 0 then -(x + 1) else x) % 3 = (r : Int) := ⟨((if x < 0 then -(x + 1) else x) % 3).toNat, by omega⟩
      obtain ⟨r2, hr2⟩ : ∃ r : Nat, (if x < 0 then -(x + 1) else x) % 2 = (r : Int) := ⟨((if x < 0 then -(x + 1) else x) % 2).toNat, by omega⟩
      have hc3 : ∀ w, Calls Try.prog 20 #[.int .i64 x, .int .i64 3] w fun e w' => e = .returned (.int .i64 (r3 : Int)) ∧ w = w' := by
        intro w; rw [← hr3]; exact count_c x 3 w HXM.out.1 (by decide)
      have hc2 : ∀ w, Calls Try.prog 20 #[.int .i64 x, .int .i64 2] w fun e w' => e = .returned (.int .i64 (r2 : Int)) ∧ w = w' := by
        intro w; rw [← hr2]; exact count_c x 2 w HXM.out.1 (by decide)
      have HR : Hd (r3 < 3 ∧ r2 < 2) := ⟨by omega, by omega⟩
      obtain ⟨S, hS⟩ : ∃ S, List.replicate 32 (UInt8.ofNat j) = S := ⟨_, rfl⟩
      have hsum : ∀ w, Calls Try.prog 25 #[.int .u8 (j : Int)] w fun e w' => e = .returned (.string ⟨S.toArray⟩) ∧ Below w.heap.size w w' := by
        intro w
        have h1 := sum_5 (UInt8.ofNat j) w
        have h2 : bn (UInt8.ofNat j) = (j : Int) := by unfold bn; rw [UInt8.toNat_ofNat']; have := HJ2.out; omega
        rw [h2, hS] at h1
        exact h1
      have HW : Hd (wantE r3 r2 nn j = ⟨1 + (r3 : Int), (nn : Int) + 1, (r2 : Int), (j : Int), S⟩) := ⟨by rw [← hS]; rfl⟩
      have hnj : nn ≤ 40 := by have := HL.out.hn; have := HJ2.out; omega
      have hr32 := HR.out.1
      have hw1 : IntKind.i64.wrap (1 + (r3 : Int)) = 1 + (r3 : Int) := IntWalk.i64_in _ (by omega)
      have hw2 : IntKind.i64.wrap ((nn : Int) + 1) = (nn : Int) + 1 := IntWalk.i64_in _ (by omega)
      have hw3 : IntKind.u8.wrap (j : Int) = (j : Int) := by have := HJ2.out; unfold IntKind.wrap; simp [IntKind.signed, IntKind.bits]; omega
      have HNJ := Hd.mk hnj
      clear hr3 hr2 hS hnj hr32
      go_upto_region 10 with fail
      obtain ⟨N0, hN0⟩ : ∃ n, (wr.alloc (.cells #[.int .i64 kd, .int .i64 ek, .int .i64 en, .int .i64 es, .int .i64 ez, .string ⟨su.toArray⟩, .int .i64 x, .string ⟨s.toArray⟩, .int .u64 (m : Int)] 59 (0, 0))).heap.size = n := ⟨_, rfl⟩
      have HP0 : Hd (NO < N0 ∧ BL < N0) := ⟨by rw [← hN0]; exact blk_lt HS1.out.at0, by rw [← hN0]; exact blk_lt HS1.out.at1⟩
      refine wp_world (fun w' => RX w w' b D [(NO, #[.int .i64 kd, .int .i64 ek, .int .i64 en, .int .i64 es, .int .i64 ez, .string ⟨su.toArray⟩, .int .i64 x, .string ⟨s.toArray⟩, .int .u64 (m : Int)], 59), (BL, #[.int .i64 lk, .int .i64 (nn : Int), .int .i64 lsl, .int .i64 lsz, .string ⟨lsum.toArray⟩], 28)] [] ∧ N0 ≤ w'.heap.size) ⟨HS1.out, Nat.le_of_eq hN0.symm⟩ ?_
      clear HS1 hN0 c0 c1 c2 c3 c4 c5 c6 c7 c8
      rintro w3 hd
      have HM := Hd.mk hd
      clear hd
      go_cut [9] (fun v wx => ∃ NW, v = .pointer (some ⟨NW, 0, none⟩) ∧ Hd (RX w wx b D [(NW, #[.int .i64 (1 + (r3 : Int)), .int .i64 ((nn : Int) + 1), .int .i64 (r2 : Int), .int .i64 (j : Int), .string ⟨S.toArray⟩], 28), (NO, #[.int .i64 kd, .int .i64 ek, .int .i64 en, .int .i64 es, .int .i64 ez, .string ⟨su.toArray⟩, .int .i64 x, .string ⟨s.toArray⟩, .int .u64 (m : Int)], 59), (BL, #[.int .i64 lk, .int .i64 (nn : Int), .int .i64 lsl, .int .i64 lsz, .string ⟨lsum.toArray⟩], 28)] []))
      case first =>
        as_aux_lemma =>
          refine region_X N0 [0, 0, 2, 0, 0, 0, 2, 0, 0, 0, 2, 0, 0, 0, 2, 2, 1] (lst [0, 0, 0, 0, 0, 0, 0, 0, 0, 0, 0, 0, 0, 0, 0, 0, 0]) 17 (by kernel_rfl) (by kernel_rfl) (by kernel_rfl) ?_
          refine wpX_reads [0, 1, 4, 5, 7, 8, 9, 11, 12, 13] (lst [1,1,0,0,1,1,0,1,1,1,0,1,1,1,0,0,0]) 7 (by rfl) (by kernel_rfl) (fun _ _ _ _ _ h => h) ?_
          have y6 := fun xx : Later (BelN N0) w3.drew => blk_cell (later_blkN (blk_drew HM.out.1.at0) HP0.out.1 xx) 6
          have z1 := fun xx : Later (BelN N0) w3.drew => blk_cell (later_blkN (blk_drew HM.out.1.at1) HP0.out.2 xx) 1
          simp only [List.getElem?_toArray, List.getElem?_cons_zero, List.getElem?_cons_succ] at y6 z1
          simp (decide := true) only [opsAt, List.getElem?_cons_zero, List.getElem?_cons_succ]
          repeat go_big_quiet_step (fail)
          refine wpQuiet_nil ?_
          refine wpX_world (fun w' => RX w w' b D [(NO, #[.int .i64 kd, .int .i64 ek, .int .i64 en, .int .i64 es, .int .i64 ez, .string ⟨su.toArray⟩, .int .i64 x, .string ⟨s.toArray⟩, .int .u64 (m : Int)], 59), (BL, #[.int .i64 lk, .int .i64 (nn : Int), .int .i64 lsl, .int .i64 lsz, .string ⟨lsum.toArray⟩], 28)] [] ∧ N0 ≤ w'.heap.size) ⟨HM.out.1.drew, HM.out.2⟩ ?_
          rintro wz0 hm
          have HM0 := Hd.mk hm
          clear hm HM
          refine wpX_ready (rs := [2, 15]) (by kernel_rfl) (by simp) ?_
          refine AllX.cons rfl (lst [1,1,1,0,1,1,0,1,1,1,0,1,1,1,0,0,0]) (by kernel_rfl) (by rfl) ?_ (AllX.cons rfl (lst [1,1,0,0,1,1,0,1,1,1,0,1,1,1,0,1,0]) (by kernel_rfl) (by rfl) ?_ AllX.nil)
          · go_step
            refine (hc3 _).mono ?_
            rintro e w' ⟨rfl, rfl⟩
            refine ⟨fun _ => Below.refl _ _, ?_⟩
            refine wpX_reads [3] (lst [1,1,1,1,1,1,0,1,1,1,0,1,1,1,0,0,0]) 5 (by rfl) (by kernel_rfl) (fun _ _ _ _ _ h => h) ?_
            simp (decide := true) only [opsAt, List.getElem?_cons_zero, List.getElem?_cons_succ]
            repeat go_big_quiet_step (fail)
            refine wpQuiet_nil ?_
            refine wpX_ready (rs := [6, 15]) (by kernel_rfl) (by simp) ?_
            refine AllX.cons rfl (lst [1,1,1,1,1,1,1,1,1,1,0,1,1,1,0,0,0]) (by kernel_rfl) (by rfl) ?_ (AllX.cons rfl (lst [1,1,1,1,1,1,0,1,1,1,0,1,1,1,0,1,0]) (by kernel_rfl) (by rfl) ?_ AllX.nil)
            · go_step
              refine (hc2 _).mono ?_
              rintro e w' ⟨rfl, rfl⟩
              refine ⟨fun _ => Below.refl _ _, ?_⟩
              refine wpX_ready (rs := [10, 15]) (by kernel_rfl) (by simp) ?_
              refine AllX.cons rfl (lst [1,1,1,1,1,1,1,1,1,1,1,1,1,1,0,0,0]) (by kernel_rfl) (by rfl) ?_ (AllX.cons rfl (lst [1,1,1,1,1,1,1,1,1,1,0,1,1,1,0,1,0]) (by kernel_rfl) (by rfl) ?_ AllX.nil)
              · go_step
                refine (hsum _).mono ?_
                rintro e wz1 ⟨rfl, hb⟩
                have HM1 : Hd (RX w wz1 b D [(NO, #[.int .i64 kd, .int .i64 ek, .int .i64 en, .int .i64 es, .int .i64 ez, .string ⟨su.toArray⟩, .int .i64 x, .string ⟨s.toArray⟩, .int .u64 (m : Int)], 59), (BL, #[.int .i64 lk, .int .i64 (nn : Int), .int .i64 lsl, .int .i64 lsz, .string ⟨lsum.toArray⟩], 28)] [] ∧ N0 ≤ wz1.heap.size) := ⟨HM0.out.1.ext hb, Nat.le_trans HM0.out.2 hb.size⟩
                refine ⟨fun _ => hb.mono HM0.out.2, ?_⟩
                clear hb
                refine wpX_ready (rs := [14, 15]) (by kernel_rfl) (by simp) ?_
                refine AllX.cons rfl (lst [1,1,1,1,1,1,1,1,1,1,1,1,1,1,1,0,0]) (by kernel_rfl) (by rfl) ?_ (AllX.cons rfl (lst [1,1,1,1,1,1,1,1,1,1,1,1,1,1,0,1,0]) (by kernel_rfl) (by rfl) ?_ AllX.nil)
                · go_step
                  refine ⟨fun _ => Below.refl _ _, ?_⟩
                  refine wpX_ready (rs := [15]) (by kernel_rfl) (by simp) ?_
                  refine AllX.cons rfl (lst [1,1,1,1,1,1,1,1,1,1,1,1,1,1,1,1,0]) (by kernel_rfl) (by rfl) ?_ AllX.nil
                  go_step
                  obtain ⟨NW, hNW⟩ : ∃ n, wz1.heap.size = n := ⟨_, rfl⟩
                  have HNW : Hd (N0 ≤ NW) := ⟨hNW ▸ HM1.out.2⟩
                  have HM2' : Hd (RX w (wz1.alloc (.cells #[.int .i64 0, .int .i64 0, .int .i64 0, .int .i64 0, .string ⟨#[]⟩] 28 (0, 0))) b D [(NW, #[.int .i64 0, .int .i64 0, .int .i64 0, .int .i64 0, .string ⟨#[]⟩], 28), (NO, #[.int .i64 kd, .int .i64 ek, .int .i64 en, .int .i64 es, .int .i64 ez, .string ⟨su.toArray⟩, .int .i64 x, .string ⟨s.toArray⟩, .int .u64 (m : Int)], 59), (BL, #[.int .i64 lk, .int .i64 (nn : Int), .int .i64 lsl, .int .i64 lsz, .string ⟨lsum.toArray⟩], 28)] [] ∧ N0 ≤ (wz1.alloc (.cells #[.int .i64 0, .int .i64 0, .int .i64 0, .int .i64 0, .string ⟨#[]⟩] 28 (0, 0))).heap.size) := ⟨hNW ▸ HM1.out.1.push #[.int .i64 0, .int .i64 0, .int .i64 0, .int .i64 0, .string ⟨#[]⟩] 28, by rw [sz_alloc]; exact Nat.le_succ_of_le HM1.out.2⟩
                  refine ⟨fun _ => (Below.refl _ _).alloc HM1.out.2 _, ?_⟩
                  rw [hNW]
                  refine wpX_world (fun w' => RX w w' b D [(NW, #[.int .i64 0, .int .i64 0, .int .i64 0, .int .i64 0, .string ⟨#[]⟩], 28), (NO, #[.int .i64 kd, .int .i64 ek, .int .i64 en, .int .i64 es, .int .i64 ez, .string ⟨su.toArray⟩, .int .i64 x, .string ⟨s.toArray⟩, .int .u64 (m : Int)], 59), (BL, #[.int .i64 lk, .int .i64 (nn : Int), .int .i64 lsl, .int .i64 lsz, .string ⟨lsum.toArray⟩], 28)] [] ∧ N0 ≤ w'.heap.size) HM2'.out ?_
                  clear HM2'
                  rintro wz2 hm
                  have HM2 := Hd.mk hm
                  clear hm hNW
                  refine wpX_ready (rs := [16]) (by kernel_rfl) (by simp) ?_
                  refine AllX.cons rfl (lst [1,1,1,1,1,1,1,1,1,1,1,1,1,1,1,1,1]) (by kernel_rfl) (by rfl) ?_ AllX.nil
                  have hN := HM2.out.1.at0
                  have d0 := blk_cell hN 0
                  have f0 := blk_free hN 0
                  have d1 := blk_cell hN 1
                  have f1 := blk_free hN 1
                  have d2 := blk_cell hN 2
                  have f2 := blk_free hN 2
                  have d3 := blk_cell hN 3
                  have f3 := blk_free hN 3
                  have d4 := blk_cell hN 4
                  have f4 := blk_free hN 4
                  simp only [List.getElem?_toArray, List.getElem?_cons_zero, List.getElem?_cons_succ] at d0 d1 d2 d3 d4
                  clear hN
                  go_step
                  clear d0 d1 d2 d3 d4 f0 f1 f2 f3 f4
                  have hle := HNW.out
                  refine ⟨fun _ => ((((((((((Below.refl _ _).setCell (p := ⟨NW, 0, none⟩) hle _)).setCell (p := ⟨NW, 1, none⟩) hle _)).setCell (p := ⟨NW, 2, none⟩) hle _)).setCell (p := ⟨NW, 3, none⟩) hle _)).setCell (p := ⟨NW, 4, none⟩) hle _), ?_⟩
                  have hset : RX w (((((wz2.setCell ⟨NW, 0, none⟩ (.int .i64 (1 + (r3 : Int)))).setCell ⟨NW, 1, none⟩ (.int .i64 ((nn : Int) + 1))).setCell ⟨NW, 2, none⟩ (.int .i64 (r2 : Int))).setCell ⟨NW, 3, none⟩ (.int .i64 (j : Int))).setCell ⟨NW, 4, none⟩ (.string ⟨S.toArray⟩)) b D [(NW, #[.int .i64 (1 + (r3 : Int)), .int .i64 ((nn : Int) + 1), .int .i64 (r2 : Int), .int .i64 (j : Int), .string ⟨S.toArray⟩], 28), (NO, #[.int .i64 kd, .int .i64 ek, .int .i64 en, .int .i64 es, .int .i64 ez, .string ⟨su.toArray⟩, .int .i64 x, .string ⟨s.toArray⟩, .int .u64 (m : Int)], 59), (BL, #[.int .i64 lk, .int .i64 (nn : Int), .int .i64 lsl, .int .i64 lsz, .string ⟨lsum.toArray⟩], 28)] [] := ((((((((((HM2.out.1).set 0 (.int .i64 (1 + (r3 : Int))))).set 1 (.int .i64 ((nn : Int) + 1)))).set 2 (.int .i64 (r2 : Int)))).set 3 (.int .i64 (j : Int)))).set 4 (.string ⟨S.toArray⟩))
                  refine wpX_world (fun w' => RX w w' b D [(NW, #[.int .i64 (1 + (r3 : Int)), .int .i64 ((nn : Int) + 1), .int .i64 (r2 : Int), .int .i64 (j : Int), .string ⟨S.toArray⟩], 28), (NO, #[.int .i64 kd, .int .i64 ek, .int .i64 en, .int .i64 es, .int .i64 ez, .string ⟨su.toArray⟩, .int .i64 x, .string ⟨s.toArray⟩, .int .u64 (m : Int)], 59), (BL, #[.int .i64 lk, .int .i64 (nn : Int), .int .i64 lsl, .int .i64 lsz, .string ⟨lsum.toArray⟩], 28)] []) hset ?_
                  clear hset hle
                  rintro w9 hm
                  have HM9 := Hd.mk hm
                  clear hm
                  refine wpX_done (by kernel_rfl) ?_
                  go_wp2_with fail
                  go_meet
                  case rel => exact ⟨NW, rfl, HM9⟩
                · go_step
                  obtain ⟨NW, hNW⟩ : ∃ n, wz1.heap.size = n := ⟨_, rfl⟩
                  have HNW : Hd (N0 ≤ NW) := ⟨hNW ▸ HM1.out.2⟩
                  have HM2' : Hd (RX w (wz1.alloc (.cells #[.int .i64 0, .int .i64 0, .int .i64 0, .int .i64 0, .string ⟨#[]⟩] 28 (0, 0))) b D [(NW, #[.int .i64 0, .int .i64 0, .int .i64 0, .int .i64 0, .string ⟨#[]⟩], 28), (NO, #[.int .i64 kd, .int .i64 ek, .int .i64 en, .int .i64 es, .int .i64 ez, .string ⟨su.toArray⟩, .int .i64 x, .string ⟨s.toArray⟩, .int .u64 (m : Int)], 59), (BL, #[.int .i64 lk, .int .i64 (nn : Int), .int .i64 lsl, .int .i64 lsz, .string ⟨lsum.toArray⟩], 28)] [] ∧ N0 ≤ (wz1.alloc (.cells #[.int .i64 0, .int .i64 0, .int .i64 0, .int .i64 0, .string ⟨#[]⟩] 28 (0, 0))).heap.size) := ⟨hNW ▸ HM1.out.1.push #[.int .i64 0, .int .i64 0, .int .i64 0, .int .i64 0, .string ⟨#[]⟩] 28, by rw [sz_alloc]; exact Nat.le_succ_of_le HM1.out.2⟩
                  refine ⟨fun _ => (Below.refl _ _).alloc HM1.out.2 _, ?_⟩
                  rw [hNW]
                  refine wpX_world (fun w' => RX w w' b D [(NW, #[.int .i64 0, .int .i64 0, .int .i64 0, .int .i64 0, .string ⟨#[]⟩], 28), (NO, #[.int .i64 kd, .int .i64 ek, .int .i64 en, .int .i64 es, .int .i64 ez, .string ⟨su.toArray⟩, .int .i64 x, .string ⟨s.toArray⟩, .int .u64 (m : Int)], 59), (BL, #[.int .i64 lk, .int .i64 (nn : Int), .int .i64 lsl, .int .i64 lsz, .string ⟨lsum.toArray⟩], 28)] [] ∧ N0 ≤ w'.heap.size) HM2'.out ?_
                  clear HM2'
                  rintro wz2 hm
                  have HM2 := Hd.mk hm
                  clear hm hNW
                  refine wpX_ready (rs := [14]) (by kernel_rfl) (by simp) ?_
                  refine AllX.cons rfl (lst [1,1,1,1,1,1,1,1,1,1,1,1,1,1,1,1,0]) (by kernel_rfl) (by rfl) ?_ AllX.nil
                  go_step
                  refine ⟨fun _ => Below.refl _ _, ?_⟩
                  refine wpX_ready (rs := [16]) (by kernel_rfl) (by simp) ?_
                  refine AllX.cons rfl (lst [1,1,1,1,1,1,1,1,1,1,1,1,1,1,1,1,1]) (by kernel_rfl) (by rfl) ?_ AllX.nil
                  have hN := HM2.out.1.at0
                  have d0 := blk_cell hN 0
                  have f0 := blk_free hN 0
                  have d1 := blk_cell hN 1
                  have f1 := blk_free hN 1
                  have d2 := blk_cell hN 2
                  have f2 := blk_free hN 2
                  have d3 := blk_cell hN 3
                  have f3 := blk_free hN 3
                  have d4 := blk_cell hN 4
                  have f4 := blk_free hN 4
                  simp only [List.getElem?_toArray, List.getElem?_cons_zero, List.getElem?_cons_succ] at d0 d1 d2 d3 d4
                  clear hN
                  go_step
                  clear d0 d1 d2 d3 d4 f0 f1 f2 f3 f4
                  have hle := HNW.out
                  refine ⟨fun _ => ((((((((((Below.refl _ _).setCell (p := ⟨NW, 0, none⟩) hle _)).setCell (p := ⟨NW, 1, none⟩) hle _)).setCell (p := ⟨NW, 2, none⟩) hle _)).setCell (p := ⟨NW, 3, none⟩) hle _)).setCell (p := ⟨NW, 4, none⟩) hle _), ?_⟩
                  have hset : RX w (((((wz2.setCell ⟨NW, 0, none⟩ (.int .i64 (1 + (r3 : Int)))).setCell ⟨NW, 1, none⟩ (.int .i64 ((nn : Int) + 1))).setCell ⟨NW, 2, none⟩ (.int .i64 (r2 : Int))).setCell ⟨NW, 3, none⟩ (.int .i64 (j : Int))).setCell ⟨NW, 4, none⟩ (.string ⟨S.toArray⟩)) b D [(NW, #[.int .i64 (1 + (r3 : Int)), .int .i64 ((nn : Int) + 1), .int .i64 (r2 : Int), .int .i64 (j : Int), .string ⟨S.toArray⟩], 28), (NO, #[.int .i64 kd, .int .i64 ek, .int .i64 en, .int .i64 es, .int .i64 ez, .string ⟨su.toArray⟩, .int .i64 x, .string ⟨s.toArray⟩, .int .u64 (m : Int)], 59), (BL, #[.int .i64 lk, .int .i64 (nn : Int), .int .i64 lsl, .int .i64 lsz, .string ⟨lsum.toArray⟩], 28)] [] := ((((((((((HM2.out.1).set 0 (.int .i64 (1 + (r3 : Int))))).set 1 (.int .i64 ((nn : Int) + 1)))).set 2 (.int .i64 (r2 : Int)))).set 3 (.int .i64 (j : Int)))).set 4 (.string ⟨S.toArray⟩))
                  refine wpX_world (fun w' => RX w w' b D [(NW, #[.int .i64 (1 + (r3 : Int)), .int .i64 ((nn : Int) + 1), .int .i64 (r2 : Int), .int .i64 (j : Int), .string ⟨S.toArray⟩], 28), (NO, #[.int .i64 kd, .int .i64 ek, .int .i64 en, .int .i64 es, .int .i64 ez, .string ⟨su.toArray⟩, .int .i64 x, .string ⟨s.toArray⟩, .int .u64 (m : Int)], 59), (BL, #[.int .i64 lk, .int .i64 (nn : Int), .int .i64 lsl, .int .i64 lsz, .string ⟨lsum.toArray⟩], 28)] []) hset ?_
                  clear hset hle
                  rintro w9 hm
                  have HM9 := Hd.mk hm
                  clear hm
                  refine wpX_done (by kernel_rfl) ?_
                  go_wp2_with fail
                  go_meet
                  case rel => exact ⟨NW, rfl, HM9⟩
              · go_step
                obtain ⟨NW, hNW⟩ : ∃ n, wz0.heap.size = n := ⟨_, rfl⟩
                have HNW : Hd (N0 ≤ NW) := ⟨hNW ▸ HM0.out.2⟩
                have HM1' : Hd (RX w (wz0.alloc (.cells #[.int .i64 0, .int .i64 0, .int .i64 0, .int .i64 0, .string ⟨#[]⟩] 28 (0, 0))) b D [(NW, #[.int .i64 0, .int .i64 0, .int .i64 0, .int .i64 0, .string ⟨#[]⟩], 28), (NO, #[.int .i64 kd, .int .i64 ek, .int .i64 en, .int .i64 es, .int .i64 ez, .string ⟨su.toArray⟩, .int .i64 x, .string ⟨s.toArray⟩, .int .u64 (m : Int)], 59), (BL, #[.int .i64 lk, .int .i64 (nn : Int), .int .i64 lsl, .int .i64 lsz, .string ⟨lsum.toArray⟩], 28)] [] ∧ N0 ≤ (wz0.alloc (.cells #[.int .i64 0, .int .i64 0, .int .i64 0, .int .i64 0, .string ⟨#[]⟩] 28 (0, 0))).heap.size) := ⟨hNW ▸ HM0.out.1.push #[.int .i64 0, .int .i64 0, .int .i64 0, .int .i64 0, .string ⟨#[]⟩] 28, by rw [sz_alloc]; exact Nat.le_succ_of_le HM0.out.2⟩
                refine ⟨fun _ => (Below.refl _ _).alloc HM0.out.2 _, ?_⟩
                rw [hNW]
                refine wpX_world (fun w' => RX w w' b D [(NW, #[.int .i64 0, .int .i64 0, .int .i64 0, .int .i64 0, .string ⟨#[]⟩], 28), (NO, #[.int .i64 kd, .int .i64 ek, .int .i64 en, .int .i64 es, .int .i64 ez, .string ⟨su.toArray⟩, .int .i64 x, .string ⟨s.toArray⟩, .int .u64 (m : Int)], 59), (BL, #[.int .i64 lk, .int .i64 (nn : Int), .int .i64 lsl, .int .i64 lsz, .string ⟨lsum.toArray⟩], 28)] [] ∧ N0 ≤ w'.heap.size) HM1'.out ?_
                clear HM1'
                rintro wz1 hm
                have HM1 := Hd.mk hm
                clear hm hNW
                refine wpX_ready (rs := [10]) (by kernel_rfl) (by simp) ?_
                refine AllX.cons rfl (lst [1,1,1,1,1,1,1,1,1,1,1,1,1,1,0,1,0]) (by kernel_rfl) (by rfl) ?_ AllX.nil
                go_step
                refine (hsum _).mono ?_
                rintro e wz2 ⟨rfl, hb⟩
                have HM2 : Hd (RX w wz2 b D [(NW, #[.int .i64 0, .int .i64 0, .int .i64 0, .int .i64 0, .string ⟨#[]⟩], 28), (NO, #[.int .i64 kd, .int .i64 ek, .int .i64 en, .int .i64 es, .int .i64 ez, .string ⟨su.toArray⟩, .int .i64 x, .string ⟨s.toArray⟩, .int .u64 (m : Int)], 59), (BL, #[.int .i64 lk, .int .i64 (nn : Int), .int .i64 lsl, .int .i64 lsz, .string ⟨lsum.toArray⟩], 28)] [] ∧ N0 ≤ wz2.heap.size) := ⟨HM1.out.1.ext hb, Nat.le_trans HM1.out.2 hb.size⟩
                refine ⟨fun _ => hb.mono HM1.out.2, ?_⟩
                clear hb
                refine wpX_ready (rs := [14]) (by kernel_rfl) (by simp) ?_
                refine AllX.cons rfl (lst [1,1,1,1,1,1,1,1,1,1,1,1,1,1,1,1,0]) (by kernel_rfl) (by rfl) ?_ AllX.nil
                go_step
                refine ⟨fun _ => Below.refl _ _, ?_⟩
                refine wpX_ready (rs := [16]) (by kernel_rfl) (by simp) ?_
                refine AllX.cons rfl (lst [1,1,1,1,1,1,1,1,1,1,1,1,1,1,1,1,1]) (by kernel_rfl) (by rfl) ?_ AllX.nil
                have hN := HM2.out.1.at0
                have d0 := blk_cell hN 0
                have f0 := blk_free hN 0
                have d1 := blk_cell hN 1
                have f1 := blk_free hN 1
                have d2 := blk_cell hN 2
                have f2 := blk_free hN 2
                have d3 := blk_cell hN 3
                have f3 := blk_free hN 3
                have d4 := blk_cell hN 4
                have f4 := blk_free hN 4
                simp only [List.getElem?_toArray, List.getElem?_cons_zero, List.getElem?_cons_succ] at d0 d1 d2 d3 d4
                clear hN
                go_step
                clear d0 d1 d2 d3 d4 f0 f1 f2 f3 f4
                have hle := HNW.out
                refine ⟨fun _ => ((((((((((Below.refl _ _).setCell (p := ⟨NW, 0, none⟩) hle _)).setCell (p := ⟨NW, 1, none⟩) hle _)).setCell (p := ⟨NW, 2, none⟩) hle _)).setCell (p := ⟨NW, 3, none⟩) hle _)).setCell (p := ⟨NW, 4, none⟩) hle _), ?_⟩
                have hset : RX w (((((wz2.setCell ⟨NW, 0, none⟩ (.int .i64 (1 + (r3 : Int)))).setCell ⟨NW, 1, none⟩ (.int .i64 ((nn : Int) + 1))).setCell ⟨NW, 2, none⟩ (.int .i64 (r2 : Int))).setCell ⟨NW, 3, none⟩ (.int .i64 (j : Int))).setCell ⟨NW, 4, none⟩ (.string ⟨S.toArray⟩)) b D [(NW, #[.int .i64 (1 + (r3 : Int)), .int .i64 ((nn : Int) + 1), .int .i64 (r2 : Int), .int .i64 (j : Int), .string ⟨S.toArray⟩], 28), (NO, #[.int .i64 kd, .int .i64 ek, .int .i64 en, .int .i64 es, .int .i64 ez, .string ⟨su.toArray⟩, .int .i64 x, .string ⟨s.toArray⟩, .int .u64 (m : Int)], 59), (BL, #[.int .i64 lk, .int .i64 (nn : Int), .int .i64 lsl, .int .i64 lsz, .string ⟨lsum.toArray⟩], 28)] [] := ((((((((((HM2.out.1).set 0 (.int .i64 (1 + (r3 : Int))))).set 1 (.int .i64 ((nn : Int) + 1)))).set 2 (.int .i64 (r2 : Int)))).set 3 (.int .i64 (j : Int)))).set 4 (.string ⟨S.toArray⟩))
                refine wpX_world (fun w' => RX w w' b D [(NW, #[.int .i64 (1 + (r3 : Int)), .int .i64 ((nn : Int) + 1), .int .i64 (r2 : Int), .int .i64 (j : Int), .string ⟨S.toArray⟩], 28), (NO, #[.int .i64 kd, .int .i64 ek, .int .i64 en, .int .i64 es, .int .i64 ez, .string ⟨su.toArray⟩, .int .i64 x, .string ⟨s.toArray⟩, .int .u64 (m : Int)], 59), (BL, #[.int .i64 lk, .int .i64 (nn : Int), .int .i64 lsl, .int .i64 lsz, .string ⟨lsum.toArray⟩], 28)] []) hset ?_
                clear hset hle
                rintro w9 hm
                have HM9 := Hd.mk hm
                clear hm
                refine wpX_done (by kernel_rfl) ?_
                go_wp2_with fail
                go_meet
                case rel => exact ⟨NW, rfl, HM9⟩
            · go_step
              obtain ⟨NW, hNW⟩ : ∃ n, wz0.heap.size = n := ⟨_, rfl⟩
              have HNW : Hd (N0 ≤ NW) := ⟨hNW ▸ HM0.out.2⟩
              have HM1' : Hd (RX w (wz0.alloc (.cells #[.int .i64 0, .int .i64 0, .int .i64 0, .int .i64 0, .string ⟨#[]⟩] 28 (0, 0))) b D [(NW, #[.int .i64 0, .int .i64 0, .int .i64 0, .int .i64 0, .string ⟨#[]⟩], 28), (NO, #[.int .i64 kd, .int .i64 ek, .int .i64 en, .int .i64 es, .int .i64 ez, .string ⟨su.toArray⟩, .int .i64 x, .string ⟨s.toArray⟩, .int .u64 (m : Int)], 59), (BL, #[.int .i64 lk, .int .i64 (nn : Int), .int .i64 lsl, .int .i64 lsz, .string ⟨lsum.toArray⟩], 28)] [] ∧ N0 ≤ (wz0.alloc (.cells #[.int .i64 0, .int .i64 0, .int .i64 0, .int .i64 0, .string ⟨#[]⟩] 28 (0, 0))).heap.size) := ⟨hNW ▸ HM0.out.1.push #[.int .i64 0, .int .i64 0, .int .i64 0, .int .i64 0, .string ⟨#[]⟩] 28, by rw [sz_alloc]; exact Nat.le_succ_of_le HM0.out.2⟩
              refine ⟨fun _ => (Below.refl _ _).alloc HM0.out.2 _, ?_⟩
              rw [hNW]
              refine wpX_world (fun w' => RX w w' b D [(NW, #[.int .i64 0, .int .i64 0, .int .i64 0, .int .i64 0, .string ⟨#[]⟩], 28), (NO, #[.int .i64 kd, .int .i64 ek, .int .i64 en, .int .i64 es, .int .i64 ez, .string ⟨su.toArray⟩, .int .i64 x, .string ⟨s.toArray⟩, .int .u64 (m : Int)], 59), (BL, #[.int .i64 lk, .int .i64 (nn : Int), .int .i64 lsl, .int .i64 lsz, .string ⟨lsum.toArray⟩], 28)] [] ∧ N0 ≤ w'.heap.size) HM1'.out ?_
              clear HM1'
              rintro wz1 hm
              have HM1 := Hd.mk hm
              clear hm hNW
              refine wpX_ready (rs := [6]) (by kernel_rfl) (by simp) ?_
              refine AllX.cons rfl (lst [1,1,1,1,1,1,1,1,1,1,0,1,1,1,0,1,0]) (by kernel_rfl) (by rfl) ?_ AllX.nil
              go_step
              refine (hc2 _).mono ?_
              rintro e w' ⟨rfl, rfl⟩
              refine ⟨fun _ => Below.refl _ _, ?_⟩
              refine wpX_ready (rs := [10]) (by kernel_rfl) (by simp) ?_
              refine AllX.cons rfl (lst [1,1,1,1,1,1,1,1,1,1,1,1,1,1,0,1,0]) (by kernel_rfl) (by rfl) ?_ AllX.nil
              go_step
              refine (hsum _).mono ?_
              rintro e wz2 ⟨rfl, hb⟩
              have HM2 : Hd (RX w wz2 b D [(NW, #[.int .i64 0, .int .i64 0, .int .i64 0, .int .i64 0, .string ⟨#[]⟩], 28), (NO, #[.int .i64 kd, .int .i64 ek, .int .i64 en, .int .i64 es, .int .i64 ez, .string ⟨su.toArray⟩, .int .i64 x, .string ⟨s.toArray⟩, .int .u64 (m : Int)], 59), (BL, #[.int .i64 lk, .int .i64 (nn : Int), .int .i64 lsl, .int .i64 lsz, .string ⟨lsum.toArray⟩], 28)] [] ∧ N0 ≤ wz2.heap.size) := ⟨HM1.out.1.ext hb, Nat.le_trans HM1.out.2 hb.size⟩
              refine ⟨fun _ => hb.mono HM1.out.2, ?_⟩
              clear hb
              refine wpX_ready (rs := [14]) (by kernel_rfl) (by simp) ?_
              refine AllX.cons rfl (lst [1,1,1,1,1,1,1,1,1,1,1,1,1,1,1,1,0]) (by kernel_rfl) (by rfl) ?_ AllX.nil
              go_step
              refine ⟨fun _ => Below.refl _ _, ?_⟩
              refine wpX_ready (rs := [16]) (by kernel_rfl) (by simp) ?_
              refine AllX.cons rfl (lst [1,1,1,1,1,1,1,1,1,1,1,1,1,1,1,1,1]) (by kernel_rfl) (by rfl) ?_ AllX.nil
              have hN := HM2.out.1.at0
              have d0 := blk_cell hN 0
              have f0 := blk_free hN 0
              have d1 := blk_cell hN 1
              have f1 := blk_free hN 1
              have d2 := blk_cell hN 2
              have f2 := blk_free hN 2
              have d3 := blk_cell hN 3
              have f3 := blk_free hN 3
              have d4 := blk_cell hN 4
              have f4 := blk_free hN 4
              simp only [List.getElem?_toArray, List.getElem?_cons_zero, List.getElem?_cons_succ] at d0 d1 d2 d3 d4
              clear hN
              go_step
              clear d0 d1 d2 d3 d4 f0 f1 f2 f3 f4
              have hle := HNW.out
              refine ⟨fun _ => ((((((((((Below.refl _ _).setCell (p := ⟨NW, 0, none⟩) hle _)).setCell (p := ⟨NW, 1, none⟩) hle _)).setCell (p := ⟨NW, 2, none⟩) hle _)).setCell (p := ⟨NW, 3, none⟩) hle _)).setCell (p := ⟨NW, 4, none⟩) hle _), ?_⟩
              have hset : RX w (((((wz2.setCell ⟨NW, 0, none⟩ (.int .i64 (1 + (r3 : Int)))).setCell ⟨NW, 1, none⟩ (.int .i64 ((nn : Int) + 1))).setCell ⟨NW, 2, none⟩ (.int .i64 (r2 : Int))).setCell ⟨NW, 3, none⟩ (.int .i64 (j : Int))).setCell ⟨NW, 4, none⟩ (.string ⟨S.toArray⟩)) b D [(NW, #[.int .i64 (1 + (r3 : Int)), .int .i64 ((nn : Int) + 1), .int .i64 (r2 : Int), .int .i64 (j : Int), .string ⟨S.toArray⟩], 28), (NO, #[.int .i64 kd, .int .i64 ek, .int .i64 en, .int .i64 es, .int .i64 ez, .string ⟨su.toArray⟩, .int .i64 x, .string ⟨s.toArray⟩, .int .u64 (m : Int)], 59), (BL, #[.int .i64 lk, .int .i64 (nn : Int), .int .i64 lsl, .int .i64 lsz, .string ⟨lsum.toArray⟩], 28)] [] := ((((((((((HM2.out.1).set 0 (.int .i64 (1 + (r3 : Int))))).set 1 (.int .i64 ((nn : Int) + 1)))).set 2 (.int .i64 (r2 : Int)))).set 3 (.int .i64 (j : Int)))).set 4 (.string ⟨S.toArray⟩))
              refine wpX_world (fun w' => RX w w' b D [(NW, #[.int .i64 (1 + (r3 : Int)), .int .i64 ((nn : Int) + 1), .int .i64 (r2 : Int), .int .i64 (j : Int), .string ⟨S.toArray⟩], 28), (NO, #[.int .i64 kd, .int .i64 ek, .int .i64 en, .int .i64 es, .int .i64 ez, .string ⟨su.toArray⟩, .int .i64 x, .string ⟨s.toArray⟩, .int .u64 (m : Int)], 59), (BL, #[.int .i64 lk, .int .i64 (nn : Int), .int .i64 lsl, .int .i64 lsz, .string ⟨lsum.toArray⟩], 28)] []) hset ?_
              clear hset hle
              rintro w9 hm
              have HM9 := Hd.mk hm
              clear hm
              refine wpX_done (by kernel_rfl) ?_
              go_wp2_with fail
              go_meet
              case rel => exact ⟨NW, rfl, HM9⟩
          · go_step
            obtain ⟨NW, hNW⟩ : ∃ n, wz0.heap.size = n := ⟨_, rfl⟩
            have HNW : Hd (N0 ≤ NW) := ⟨hNW ▸ HM0.out.2⟩
            have HM1' : Hd (RX w (wz0.alloc (.cells #[.int .i64 0, .int .i64 0, .int .i64 0, .int .i64 0, .string ⟨#[]⟩] 28 (0, 0))) b D [(NW, #[.int .i64 0, .int .i64 0, .int .i64 0, .int .i64 0, .string ⟨#[]⟩], 28), (NO, #[.int .i64 kd, .int .i64 ek, .int .i64 en, .int .i64 es, .int .i64 ez, .string ⟨su.toArray⟩, .int .i64 x, .string ⟨s.toArray⟩, .int .u64 (m : Int)], 59), (BL, #[.int .i64 lk, .int .i64 (nn : Int), .int .i64 lsl, .int .i64 lsz, .string ⟨lsum.toArray⟩], 28)] [] ∧ N0 ≤ (wz0.alloc (.cells #[.int .i64 0, .int .i64 0, .int .i64 0, .int .i64 0, .string ⟨#[]⟩] 28 (0, 0))).heap.size) := ⟨hNW ▸ HM0.out.1.push #[.int .i64 0, .int .i64 0, .int .i64 0, .int .i64 0, .string ⟨#[]⟩] 28, by rw [sz_alloc]; exact Nat.le_succ_of_le HM0.out.2⟩
            refine ⟨fun _ => (Below.refl _ _).alloc HM0.out.2 _, ?_⟩
            rw [hNW]
            refine wpX_world (fun w' => RX w w' b D [(NW, #[.int .i64 0, .int .i64 0, .int .i64 0, .int .i64 0, .string ⟨#[]⟩], 28), (NO, #[.int .i64 kd, .int .i64 ek, .int .i64 en, .int .i64 es, .int .i64 ez, .string ⟨su.toArray⟩, .int .i64 x, .string ⟨s.toArray⟩, .int .u64 (m : Int)], 59), (BL, #[.int .i64 lk, .int .i64 (nn : Int), .int .i64 lsl, .int .i64 lsz, .string ⟨lsum.toArray⟩], 28)] [] ∧ N0 ≤ w'.heap.size) HM1'.out ?_
            clear HM1'
            rintro wz1 hm
            have HM1 := Hd.mk hm
            clear hm hNW
            refine wpX_ready (rs := [2]) (by kernel_rfl) (by simp) ?_
            refine AllX.cons rfl (lst [1,1,1,0,1,1,0,1,1,1,0,1,1,1,0,1,0]) (by kernel_rfl) (by rfl) ?_ AllX.nil
            go_step
            refine (hc3 _).mono ?_
            rintro e w' ⟨rfl, rfl⟩
            refine ⟨fun _ => Below.refl _ _, ?_⟩
            refine wpX_reads [3] (lst [1,1,1,1,1,1,0,1,1,1,0,1,1,1,0,1,0]) 4 (by rfl) (by kernel_rfl) (fun _ _ _ _ _ h => h) ?_
            simp (decide := true) only [opsAt, List.getElem?_cons_zero, List.getElem?_cons_succ]
            repeat go_big_quiet_step (fail)
            refine wpQuiet_nil ?_
            refine wpX_ready (rs := [6]) (by kernel_rfl) (by simp) ?_
            refine AllX.cons rfl (lst [1,1,1,1,1,1,1,1,1,1,0,1,1,1,0,1,0]) (by kernel_rfl) (by rfl) ?_ AllX.nil
            go_step
            refine (hc2 _).mono ?_
            rintro e w' ⟨rfl, rfl⟩
            refine ⟨fun _ => Below.refl _ _, ?_⟩
            refine wpX_ready (rs := [10]) (by kernel_rfl) (by simp) ?_
            refine AllX.cons rfl (lst [1,1,1,1,1,1,1,1,1,1,1,1,1,1,0,1,0]) (by kernel_rfl) (by rfl) ?_ AllX.nil
            go_step
            refine (hsum _).mono ?_
            rintro e wz2 ⟨rfl, hb⟩
            have HM2 : Hd (RX w wz2 b D [(NW, #[.int .i64 0, .int .i64 0, .int .i64 0, .int .i64 0, .string ⟨#[]⟩], 28), (NO, #[.int .i64 kd, .int .i64 ek, .int .i64 en, .int .i64 es, .int .i64 ez, .string ⟨su.toArray⟩, .int .i64 x, .string ⟨s.toArray⟩, .int .u64 (m : Int)], 59), (BL, #[.int .i64 lk, .int .i64 (nn : Int), .int .i64 lsl, .int .i64 lsz, .string ⟨lsum.toArray⟩], 28)] [] ∧ N0 ≤ wz2.heap.size) := ⟨HM1.out.1.ext hb, Nat.le_trans HM1.out.2 hb.size⟩
            refine ⟨fun _ => hb.mono HM1.out.2, ?_⟩
            clear hb
            refine wpX_ready (rs := [14]) (by kernel_rfl) (by simp) ?_
            refine AllX.cons rfl (lst [1,1,1,1,1,1,1,1,1,1,1,1,1,1,1,1,0]) (by kernel_rfl) (by rfl) ?_ AllX.nil
            go_step
            refine ⟨fun _ => Below.refl _ _, ?_⟩
            refine wpX_ready (rs := [16]) (by kernel_rfl) (by simp) ?_
            refine AllX.cons rfl (lst [1,1,1,1,1,1,1,1,1,1,1,1,1,1,1,1,1]) (by kernel_rfl) (by rfl) ?_ AllX.nil
            have hN := HM2.out.1.at0
            have d0 := blk_cell hN 0
            have f0 := blk_free hN 0
            have d1 := blk_cell hN 1
            have f1 := blk_free hN 1
            have d2 := blk_cell hN 2
            have f2 := blk_free hN 2
            have d3 := blk_cell hN 3
            have f3 := blk_free hN 3
            have d4 := blk_cell hN 4
            have f4 := blk_free hN 4
            simp only [List.getElem?_toArray, List.getElem?_cons_zero, List.getElem?_cons_succ] at d0 d1 d2 d3 d4
            clear hN
            go_step
            clear d0 d1 d2 d3 d4 f0 f1 f2 f3 f4
            have hle := HNW.out
            refine ⟨fun _ => ((((((((((Below.refl _ _).setCell (p := ⟨NW, 0, none⟩) hle _)).setCell (p := ⟨NW, 1, none⟩) hle _)).setCell (p := ⟨NW, 2, none⟩) hle _)).setCell (p := ⟨NW, 3, none⟩) hle _)).setCell (p := ⟨NW, 4, none⟩) hle _), ?_⟩
            have hset : RX w (((((wz2.setCell ⟨NW, 0, none⟩ (.int .i64 (1 + (r3 : Int)))).setCell ⟨NW, 1, none⟩ (.int .i64 ((nn : Int) + 1))).setCell ⟨NW, 2, none⟩ (.int .i64 (r2 : Int))).setCell ⟨NW, 3, none⟩ (.int .i64 (j : Int))).setCell ⟨NW, 4, none⟩ (.string ⟨S.toArray⟩)) b D [(NW, #[.int .i64 (1 + (r3 : Int)), .int .i64 ((nn : Int) + 1), .int .i64 (r2 : Int), .int .i64 (j : Int), .string ⟨S.toArray⟩], 28), (NO, #[.int .i64 kd, .int .i64 ek, .int .i64 en, .int .i64 es, .int .i64 ez, .string ⟨su.toArray⟩, .int .i64 x, .string ⟨s.toArray⟩, .int .u64 (m : Int)], 59), (BL, #[.int .i64 lk, .int .i64 (nn : Int), .int .i64 lsl, .int .i64 lsz, .string ⟨lsum.toArray⟩], 28)] [] := ((((((((((HM2.out.1).set 0 (.int .i64 (1 + (r3 : Int))))).set 1 (.int .i64 ((nn : Int) + 1)))).set 2 (.int .i64 (r2 : Int)))).set 3 (.int .i64 (j : Int)))).set 4 (.string ⟨S.toArray⟩))
            refine wpX_world (fun w' => RX w w' b D [(NW, #[.int .i64 (1 + (r3 : Int)), .int .i64 ((nn : Int) + 1), .int .i64 (r2 : Int), .int .i64 (j : Int), .string ⟨S.toArray⟩], 28), (NO, #[.int .i64 kd, .int .i64 ek, .int .i64 en, .int .i64 es, .int .i64 ez, .string ⟨su.toArray⟩, .int .i64 x, .string ⟨s.toArray⟩, .int .u64 (m : Int)], 59), (BL, #[.int .i64 lk, .int .i64 (nn : Int), .int .i64 lsl, .int .i64 lsz, .string ⟨lsum.toArray⟩], 28)] []) hset ?_
            clear hset hle
            rintro w9 hm
            have HM9 := Hd.mk hm
            clear hm
            refine wpX_done (by kernel_rfl) ?_
            go_wp2_with fail
            go_meet
            case rel => exact ⟨NW, rfl, HM9⟩
      case rest =>
        obtain ⟨NW, rfl, HM9⟩ := hcut
        obtain ⟨wa, hwa⟩ : ∃ x, x = wc := ⟨_, rfl⟩
        subst hwa
        have y0 := blk_cell HM9.out.at1 0
        simp only [List.getElem?_toArray, List.getElem?_cons_zero] at y0
        obtain ⟨Bk, hBk⟩ : ∃ Bk, (kd == 2) = Bk := ⟨_, rfl⟩
        clear hsum hc2 HM HP0
        go_upto_if 62 with fail
        clear y0 hBk
        go_cut [] (fun wx => ∃ Dq, Hd (RX w wx b Dq [(NW, #[.int .i64 (1 + (r3 : Int)), .int .i64 ((nn : Int) + 1), .int .i64 (r2 : Int), .int .i64 (j : Int), .string ⟨S.toArray⟩], 28), (NO, #[.int .i64 kd, .int .i64 ek, .int .i64 en, .int .i64 es, .int .i64 ez, .string ⟨su.toArray⟩, .int .i64 x, .string ⟨s.toArray⟩, .int .u64 (m : Int)], 59), (BL, #[.int .i64 lk, .int .i64 (nn : Int), .int .i64 lsl, .int .i64 lsz, .string ⟨lsum.toArray⟩], 28)] []) ∧ Hd (RInv Dq nn ⟨lk, (nn : Int), lsl, lsz, lsum⟩ j))
        case first =>
          as_aux_lemma =>
            cases Bk
            · go_wp2_with fail
              go_meet
              case rel => exact ⟨D, HM9, HL⟩
            · go_upto_region 12 with fail
              have y2 := fun xx => blk_cell (later_blk HM9.out.at1 xx) 6
              have y3 := fun xx => blk_cell (later_blk HM9.out.at1 xx) 8
              simp only [List.getElem?_toArray, List.getElem?_cons_zero, List.getElem?_cons_succ] at y2 y3
              refine region_ext [0, 0, 0, 2, 0, 0, 1] (by kernel_rfl) (by kernel_rfl) (fun _ _ _ _ _ h => h) ?_
              simp (decide := true) only [pick, ↓reduceIte]
              repeat go_big_quiet_step (fail)
              refine wpQuiet_nil ?_
              refine wpF_plain rfl ?_
              go_step
              refine (hc3 _).mono ?_
              rintro e w' ⟨rfl, rfl⟩
              refine ⟨Below.refl _ _, wpF_nil ?_⟩
              clear y2 y3 hc3
              go_wp2_with fail
              refine (HM9.out.drew.plan r3 m (by have := HR.out; omega) HXM.out.2).mono ?_
              rintro e w4 ⟨rfl, hd⟩
              have K4 := Hd.mk hd
              clear hd HM9
              go_wp2_with fail
              go_meet
              case rel => exact ⟨D.plan r3 m, K4, ⟨HL.out.plan r3 m⟩⟩
        case rest =>
          obtain ⟨Dq, HQ, HI⟩ := hcut
          clear hc3 HL HM9
          obtain ⟨L1, hL1⟩ : ∃ L, scan Dq 8 = L := ⟨_, rfl⟩
          have hl8 := scan_len Dq 8
          have hsc := HQ.out.scan HI.out.qu.off
          rw [hL1] at hsc hl8
          obtain ⟨cc, xx, D1, n2, e2, ha, hcase, hri, hkeep⟩ := HI.out.round (by have := HJ2.out; omega) r3 r2 HR.out.1 HR.out.2 m
          rw [HW.out] at ha hcase
          rw [hL1] at hkeep
          have happ := fun (w4 : World) (v1 : Value) (h : RX w w4 b Dq [(NW, #[.int .i64 (1 + (r3 : Int)), .int .i64 ((nn : Int) + 1), .int .i64 (r2 : Int), .int .i64 (j : Int), .string ⟨S.toArray⟩], 28), (NO, #[.int .i64 kd, .int .i64 ek, .int .i64 en, .int .i64 es, .int .i64 ez, .string ⟨su.toArray⟩, .int .i64 x, .string ⟨s.toArray⟩, .int .u64 (m : Int)], 59), (BL, #[.int .i64 lk, .int .i64 (nn : Int), .int .i64 lsl, .int .i64 lsz, .string ⟨lsum.toArray⟩], 28)] [(v1, L1)]) => h.app (by have := HI.out.ops; have := HJ2.out; omega) (by have := HI.out.gh; have := HJ2.out; omega) ⟨1 + (r3 : Int), (nn : Int) + 1, (r2 : Int), (j : Int), S⟩
          rw [ha] at happ
          obtain ⟨xk, xn, xsl, xsz, xsum⟩ := xx
          change ∀ (w4 : World) (v1 : Value), RX w w4 b Dq [(NW, #[.int .i64 (1 + (r3 : Int)), .int .i64 ((nn : Int) + 1), .int .i64 (r2 : Int), .int .i64 (j : Int), .string ⟨S.toArray⟩], 28), (NO, #[.int .i64 kd, .int .i64 ek, .int .i64 en, .int .i64 es, .int .i64 ez, .string ⟨su.toArray⟩, .int .i64 x, .string ⟨s.toArray⟩, .int .u64 (m : Int)], 59), (BL, #[.int .i64 lk, .int .i64 (nn : Int), .int .i64 lsl, .int .i64 lsz, .string ⟨lsum.toArray⟩], 28)] [(v1, L1)] → Calls Try.prog 23 #[.pointer (some ⟨b, 0, none⟩), .agg #[.int .i64 (1 + (r3 : Int)), .int .i64 ((nn : Int) + 1), .int .i64 (r2 : Int), .int .i64 (j : Int), .string ⟨S.toArray⟩]] w4 fun r w' => r = .returned (.tuple #[.agg #[.int .i64 xk, .int .i64 xn, .int .i64 xsl, .int .i64 xsz, .string ⟨xsum.toArray⟩], .int .i64 (cc : Int)]) ∧ RX w w' b D1 [(NW, #[.int .i64 (1 + (r3 : Int)), .int .i64 ((nn : Int) + 1), .int .i64 (r2 : Int), .int .i64 (j : Int), .string ⟨S.toArray⟩], 28), (NO, #[.int .i64 kd, .int .i64 ek, .int .i64 en, .int .i64 es, .int .i64 ez, .string ⟨su.toArray⟩, .int .i64 x, .string ⟨s.toArray⟩, .int .u64 (m : Int)], 59), (BL, #[.int .i64 lk, .int .i64 (nn : Int), .int .i64 lsl, .int .i64 lsz, .string ⟨lsum.toArray⟩], 28)] [(v1, L1)] at happ
          obtain ⟨Dz, hDz⟩ : ∃ Dz, ((D1.plan 1099511627776 0).fail m).start = Dz := ⟨_, rfl⟩
          rw [hDz] at hri hkeep
          have hla := hri.last
          obtain ⟨L2, hL2⟩ : ∃ L, scan Dz 8 = L := ⟨_, rfl⟩
          have hl82 := scan_len Dz 8
          rw [hL2] at hkeep hl82
          obtain ⟨yk, yn, ysl, ysz, ysum⟩ := e2
          obtain ⟨U, hU⟩ : ∃ U, decide (n2 ≠ 0) = U := ⟨_, rfl⟩
          rw [hU] at hla
          change lastV Dz = .tuple #[.agg #[.int .i64 yk, .int .i64 yn, .int .i64 ysl, .int .i64 ysz, .string ⟨ysum.toArray⟩], .bool U, .int .i64 0] at hla
          have HRI := Hd.mk hri
          have HCASE := Hd.mk hcase
          have HKEEP := Hd.mk hkeep
          have HU := Hd.mk hU
          have HLA := Hd.mk hla
          have HDZ := Hd.mk hDz
          have HL2 := Hd.mk hL2
          have HL8 := Hd.mk (And.intro hl8 hl82)
          clear ha hcase hri hkeep hU hla hDz hL1 hL2 hl8 hl82
          go_wp2_with fail
          refine hsc.mono ?_
          rintro e w4 ⟨v1, rfl, hd⟩
          have K4 := Hd.mk hd
          clear hd hsc HQ
          obtain ⟨oa, oc, hv1, -, hnone, hsome⟩ := (K4.out.row (List.mem_cons_self ..)).form
          have hv1' : v1 = .slice oa L1.length oc := hv1
          subst hv1'
          have HNN := Hd.mk hnone
          have HSM : Hd (∀ x, oa = some x → ∃ g, x = ⟨g, 0, none⟩) := ⟨fun x hx => by obtain ⟨g, h1, _⟩ := hsome x hx; exact ⟨g, h1⟩⟩
          clear hv1 hnone hsome
          have a0 := blk_cell K4.out.at0 0
          have a1 := blk_cell K4.out.at0 1
          have a2 := blk_cell K4.out.at0 2
          have a3 := blk_cell K4.out.at0 3
          have a4 := blk_cell K4.out.at0 4
          simp only [List.getElem?_toArray, List.getElem?_cons_zero, List.getElem?_cons_succ] at a0 a1 a2 a3 a4
          go_wp2_with fail
          refine (happ _ _ K4.out).mono ?_
          rintro e w5 ⟨rfl, hd⟩
          obtain ⟨NX, hNX⟩ : ∃ n, w5.heap.size = n := ⟨_, rfl⟩
          have hd2 := hd.push #[.int .i64 xk, .int .i64 xn, .int .i64 xsl, .int .i64 xsz, .string ⟨xsum.toArray⟩] 28
          rw [hNX] at hd2
          have K5 : Hd (RX w (w5.alloc (.cells #[.int .i64 xk, .int .i64 xn, .int .i64 xsl, .int .i64 xsz, .string ⟨xsum.toArray⟩] 28 (0, 0))) b D1 [(NX, #[.int .i64 xk, .int .i64 xn, .int .i64 xsl, .int .i64 xsz, .string ⟨xsum.toArray⟩], 28), (NW, #[.int .i64 (1 + (r3 : Int)), .int .i64 ((nn : Int) + 1), .int .i64 (r2 : Int), .int .i64 (j : Int), .string ⟨S.toArray⟩], 28), (NO, #[.int .i64 kd, .int .i64 ek, .int .i64 en, .int .i64 es, .int .i64 ez, .string ⟨su.toArray⟩, .int .i64 x, .string ⟨s.toArray⟩, .int .u64 (m : Int)], 59), (BL, #[.int .i64 lk, .int .i64 (nn : Int), .int .i64 lsl, .int .i64 lsz, .string ⟨lsum.toArray⟩], 28)] [(.slice oa L1.length oc, L1)]) := ⟨hd2⟩
          clear hd hd2 happ K4 a0 a1 a2 a3 a4
          go_upto_region 15 with fail
          refine wp_world (fun w' => RX w w' b D1 [(NX, #[.int .i64 xk, .int .i64 xn, .int .i64 xsl, .int .i64 xsz, .string ⟨xsum.toArray⟩], 28), (NW, #[.int .i64 (1 + (r3 : Int)), .int .i64 ((nn : Int) + 1), .int .i64 (r2 : Int), .int .i64 (j : Int), .string ⟨S.toArray⟩], 28), (NO, #[.int .i64 kd, .int .i64 ek, .int .i64 en, .int .i64 es, .int .i64 ez, .string ⟨su.toArray⟩, .int .i64 x, .string ⟨s.toArray⟩, .int .u64 (m : Int)], 59), (BL, #[.int .i64 lk, .int .i64 (nn : Int), .int .i64 lsl, .int .i64 lsz, .string ⟨lsum.toArray⟩], 28)] [(.slice oa L1.length oc, L1)]) K5.out ?_
          clear K5 hNX
          rintro w6 hd
          have K6 := Hd.mk hd
          clear hd
          go_cut [95] (fun v wx => v = .bool false ∧ Hd (RX w wx b D1 [(NX, #[.int .i64 xk, .int .i64 xn, .int .i64 xsl, .int .i64 xsz, .string ⟨xsum.toArray⟩], 28), (NW, #[.int .i64 (1 + (r3 : Int)), .int .i64 ((nn : Int) + 1), .int .i64 (r2 : Int), .int .i64 (j : Int), .string ⟨S.toArray⟩], 28), (NO, #[.int .i64 kd, .int .i64 ek, .int .i64 en, .int .i64 es, .int .i64 ez, .string ⟨su.toArray⟩, .int .i64 x, .string ⟨s.toArray⟩, .int .u64 (m : Int)], 59), (BL, #[.int .i64 lk, .int .i64 (nn : Int), .int .i64 lsl, .int .i64 lsz, .string ⟨lsum.toArray⟩], 28)] [(.slice oa L1.length oc, L1)]))
          case first =>
            as_aux_lemma =>
              have a0 := blk_cell K6.out.at0 0
              have a1 := blk_cell K6.out.at0 1
              have a2 := blk_cell K6.out.at0 2
              have a3 := blk_cell K6.out.at0 3
              have a4 := blk_cell K6.out.at0 4
              have b0 := blk_cell K6.out.at1 0
              have b1 := blk_cell K6.out.at1 1
              have b2 := blk_cell K6.out.at1 2
              have b3 := blk_cell K6.out.at1 3
              have b4 := blk_cell K6.out.at1 4
              simp only [List.getElem?_toArray, List.getElem?_cons_zero, List.getElem?_cons_succ] at a0 a1 a2 a3 a4 b0 b1 b2 b3 b4
              rcases HCASE.out with ⟨hc, hx, -⟩ | ⟨hc, -⟩
              · cases hx
                subst hc
                have ne := ne_ent (1 + (r3 : Int)) ((nn : Int) + 1) (r2 : Int) (j : Int) (1 + (r3 : Int)) ((nn : Int) + 1) (r2 : Int) (j : Int) S S
                rw [decide_eq_true rfl] at ne
                simp only [Bool.not_true] at ne
                go_wp2_with fail
                go_meet
                case rel => exact ⟨rfl, K6⟩
              · subst hc
                clear a0 a1 a2 a3 a4 b0 b1 b2 b3 b4
                go_wp2_with fail
                go_meet
                case rel => exact ⟨rfl, K6⟩
          case rest =>
            obtain ⟨rfl, K7⟩ := hcut
            clear K6
            go_wp2_with fail
            refine (K7.out.plan 1099511627776 0 (by decide) (by decide)).mono ?_
            rintro e w7 ⟨rfl, hd⟩
            have K8 := Hd.mk hd
            clear hd K7
            have a8 := blk_cell K8.out.at2 8
            simp only [List.getElem?_toArray, List.getElem?_cons_zero, List.getElem?_cons_succ] at a8
            go_wp2_with fail
            refine (K8.out.fail m).mono ?_
            rintro e w8 ⟨rfl, hd⟩
            have K9 := Hd.mk hd
            clear hd K8 a8
            go_wp2_with fail
            refine (K9.out.start).mono ?_
            rintro e w9 ⟨rfl, hd⟩
            rw [HDZ.out] at hd
            have K10 := Hd.mk hd
            clear hd K9
            have hlast := K10.out.last
            rw [HLA.out] at hlast
            go_wp2_with fail
            refine hlast.mono ?_
            rintro e w10 ⟨rfl, hd⟩
            obtain ⟨NY, hNY⟩ : ∃ n, w10.heap.size = n := ⟨_, rfl⟩
            have hd2 := hd.push #[.int .i64 yk, .int .i64 yn, .int .i64 ysl, .int .i64 ysz, .string ⟨ysum.toArray⟩] 28
            rw [hNY] at hd2
            have K11 : Hd (RX w (w10.alloc (.cells #[.int .i64 yk, .int .i64 yn, .int .i64 ysl, .int .i64 ysz, .string ⟨ysum.toArray⟩] 28 (0, 0))) b Dz [(NY, #[.int .i64 yk, .int .i64 yn, .int .i64 ysl, .int .i64 ysz, .string ⟨ysum.toArray⟩], 28), (NX, #[.int .i64 xk, .int .i64 xn, .int .i64 xsl, .int .i64 xsz, .string ⟨xsum.toArray⟩], 28), (NW, #[.int .i64 (1 + (r3 : Int)), .int .i64 ((nn : Int) + 1), .int .i64 (r2 : Int), .int .i64 (j : Int), .string ⟨S.toArray⟩], 28), (NO, #[.int .i64 kd, .int .i64 ek, .int .i64 en, .int .i64 es, .int .i64 ez, .string ⟨su.toArray⟩, .int .i64 x, .string ⟨s.toArray⟩, .int .u64 (m : Int)], 59), (BL, #[.int .i64 lk, .int .i64 (nn : Int), .int .i64 lsl, .int .i64 lsz, .string ⟨lsum.toArray⟩], 28)] [(.slice oa L1.length oc, L1)]) := ⟨hd2⟩
            clear hd hd2 hlast K10
            have hsc := K11.out.scan HRI.out.qu.off
            rw [HL2.out] at hsc
            go_wp2_with fail
            refine hsc.mono ?_
            rintro e w11 ⟨v2, rfl, hd⟩
            have K12 := Hd.mk hd
            clear hd hsc K11 hNY
            go_upto_region 22 with fail
            go_cut [156] (fun v wx => v = .bool false ∧ Hd (RX w wx b Dz [(NY, #[.int .i64 yk, .int .i64 yn, .int .i64 ysl, .int .i64 ysz, .string ⟨ysum.toArray⟩], 28), (NX, #[.int .i64 xk, .int .i64 xn, .int .i64 xsl, .int .i64 xsz, .string ⟨xsum.toArray⟩], 28), (NW, #[.int .i64 (1 + (r3 : Int)), .int .i64 ((nn : Int) + 1), .int .i64 (r2 : Int), .int .i64 (j : Int), .string ⟨S.toArray⟩], 28), (NO, #[.int .i64 kd, .int .i64 ek, .int .i64 en, .int .i64 es, .int .i64 ez, .string ⟨su.toArray⟩, .int .i64 x, .string ⟨s.toArray⟩, .int .u64 (m : Int)], 59), (BL, #[.int .i64 lk, .int .i64 (nn : Int), .int .i64 lsl, .int .i64 lsz, .string ⟨lsum.toArray⟩], 28)] [(v2, L2), (.slice oa L1.length oc, L1)]))
            case first =>
              as_aux_lemma =>
                have a0 := blk_cell K12.out.at0 0
                have a1 := blk_cell K12.out.at0 1
                have a2 := blk_cell K12.out.at0 2
                have a3 := blk_cell K12.out.at0 3
                have a4 := blk_cell K12.out.at0 4
                have b0 := blk_cell K12.out.at2 0
                have b1 := blk_cell K12.out.at2 1
                have b2 := blk_cell K12.out.at2 2
                have b3 := blk_cell K12.out.at2 3
                have b4 := blk_cell K12.out.at2 4
                have hLC := K12.out.at_ (e := (BL, #[.int .i64 lk, .int .i64 (nn : Int), .int .i64 lsl, .int .i64 lsz, .string ⟨lsum.toArray⟩], 28)) (by simp)
                have l0 := blk_cell hLC 0
                have l1 := blk_cell hLC 1
                have l2 := blk_cell hLC 2
                have l3 := blk_cell hLC 3
                have l4 := blk_cell hLC 4
                simp only [List.getElem?_toArray, List.getElem?_cons_zero, List.getElem?_cons_succ] at a0 a1 a2 a3 a4 b0 b1 b2 b3 b4 l0 l1 l2 l3 l4
                clear hLC
                rcases HCASE.out with ⟨hc, -, hn2, he2⟩ | ⟨hc, ⟨hn2, he2⟩ | ⟨hn2, he2⟩⟩
                · cases he2
                  subst hc
                  have hU1 : U = true := by rw [← HU.out, hn2]; exact decide_eq_true (by omega)
                  subst hU1
                  have ne := ne_ent (1 + (r3 : Int)) ((nn : Int) + 1) (r2 : Int) (j : Int) (1 + (r3 : Int)) ((nn : Int) + 1) (r2 : Int) (j : Int) S S
                  rw [decide_eq_true rfl] at ne
                  simp only [Bool.not_true] at ne
                  go_wp2_with fail
                  go_meet
                  case rel => exact ⟨rfl, K12⟩
                · cases he2
                  subst hc
                  have hU1 : U = true := by rw [← HU.out, hn2]; exact decide_eq_true (by omega)
                  subst hU1
                  have ne := eq_ent (1 + (r3 : Int)) ((nn : Int) + 1) (r2 : Int) (j : Int) (1 + (r3 : Int)) ((nn : Int) + 1) (r2 : Int) (j : Int) S S
                  rw [decide_eq_true rfl] at ne
                  go_wp2_with fail
                  go_meet
                  case rel => exact ⟨rfl, K12⟩
                · cases he2
                  subst hc
                  have hU1 : U = V := by rw [← HU.out, hn2, HV.out]
                  subst hU1
                  have ne := ne_ent lk (nn : Int) lsl lsz lk (nn : Int) lsl lsz lsum lsum
                  rw [decide_eq_true rfl] at ne
                  simp only [Bool.not_true] at ne
                  have nq := eq_ent lk (nn : Int) lsl lsz (1 + (r3 : Int)) ((nn : Int) + 1) (r2 : Int) (j : Int) lsum S
                  rw [decide_eq_false (by intro h; injection h; omega)] at nq
                  cases U
                  all_goals
                    go_wp2_with fail
                    go_meet
                    case rel => exact ⟨rfl, K12⟩
            case rest =>
              obtain ⟨rfl, K13⟩ := hcut
              clear K12
              go_wp2_with fail
              obtain ⟨wo, hwo⟩ : ∃ x, x = wr := ⟨_, rfl⟩
              subst hwo
              go_loopw [19] (fun i wr2 => ∃ q : Nat, i = .int .i64 (q : Int) ∧ Hd (q ≤ L1.length) ∧ Hd (RX w wr2 b Dz [(NY, #[.int .i64 yk, .int .i64 yn, .int .i64 ysl, .int .i64 ysz, .string ⟨ysum.toArray⟩], 28), (NX, #[.int .i64 xk, .int .i64 xn, .int .i64 xsl, .int .i64 xsz, .string ⟨xsum.toArray⟩], 28), (NW, #[.int .i64 (1 + (r3 : Int)), .int .i64 ((nn : Int) + 1), .int .i64 (r2 : Int), .int .i64 (j : Int), .string ⟨S.toArray⟩], 28), (NO, #[.int .i64 kd, .int .i64 ek, .int .i64 en, .int .i64 es, .int .i64 ez, .string ⟨su.toArray⟩, .int .i64 x, .string ⟨s.toArray⟩, .int .u64 (m : Int)], 59), (BL, #[.int .i64 lk, .int .i64 (nn : Int), .int .i64 lsl, .int .i64 lsz, .string ⟨lsum.toArray⟩], 28)] [(v2, L2), (.slice oa L1.length oc, L1)])) (fun i _ => L1.length - (intOf i).toNat)
              case atStart => exact ⟨0, rfl, ⟨Nat.zero_le _⟩, K13⟩
              case round =>
                clear K13
                obtain ⟨q, rfl, hq, K14⟩ := hrel
                by_cases hql : q < L1.length
                · obtain ⟨og, hog⟩ : ∃ og, oa = some ⟨og, 0, none⟩ := by
                    cases oa with
                    | none => have := (HNN.out rfl).1; omega
                    | some x => obtain ⟨q, hq⟩ := HSM.out x rfl; exact ⟨q, by rw [hq]⟩
                  subst hog
                  obtain ⟨⟨qk, qn, qsl, qsz, qsum⟩, he⟩ : ∃ x, L1[q] = x := ⟨_, rfl⟩
                  have hrow := K14.out.row (r := (.slice (some ⟨og, 0, none⟩) L1.length oc, L1)) (List.mem_cons_of_mem _ (List.mem_cons_self ..))
                  have hrow2 := K14.out.row (r := (v2, L2)) (List.mem_cons_self ..)
                  obtain ⟨hogl, q0, q1, q2, q3, q4, hmem⟩ := rx_rowat hrow hql he
                  have hq8 : q < 8 := by have := HL8.out.1; omega
                  have u4 : (0 : Int) ≤ (q : Int) := by omega
                  have u5 : (q : Int) < (L1.length : Int) := by omega
                  have u6 : IntKind.i64.wrap ((nn : Int) + 1 - 8) = (nn : Int) + 1 - 8 := IntWalk.i64_in _ (by have := HNJ.out; omega)
                  have HQL := Hd.mk hql
                  clear he hrow hql
                  by_cases hgt : (nn : Int) + 1 - 8 < qn
                  · have ham : ∀ wx, RX w wx b Dz [(NY, #[.int .i64 yk, .int .i64 yn, .int .i64 ysl, .int .i64 ysz, .string ⟨ysum.toArray⟩], 28), (NX, #[.int .i64 xk, .int .i64 xn, .int .i64 xsl, .int .i64 xsz, .string ⟨xsum.toArray⟩], 28), (NW, #[.int .i64 (1 + (r3 : Int)), .int .i64 ((nn : Int) + 1), .int .i64 (r2 : Int), .int .i64 (j : Int), .string ⟨S.toArray⟩], 28), (NO, #[.int .i64 kd, .int .i64 ek, .int .i64 en, .int .i64 es, .int .i64 ez, .string ⟨su.toArray⟩, .int .i64 x, .string ⟨s.toArray⟩, .int .u64 (m : Int)], 59), (BL, #[.int .i64 lk, .int .i64 (nn : Int), .int .i64 lsl, .int .i64 lsz, .string ⟨lsum.toArray⟩], 28)] [(v2, L2), (.slice (some ⟨og, 0, none⟩) L1.length oc, L1)] → Calls Try.prog 40 #[v2, .agg #[.int .i64 qk, .int .i64 qn, .int .i64 qsl, .int .i64 qsz, .string ⟨qsum.toArray⟩]] wx fun r w' => r = .returned (.bool true) ∧ Below wx.heap.size wx w' := by
                      intro wx hx
                      have h1 := among_c (hx.row (r := (v2, L2)) (List.mem_cons_self ..)) ⟨qk, qn, qsl, qsz, qsum⟩ (by have := HL8.out.2; show L2.length ≤ 100; omega)
                      rw [decide_eq_true (HKEEP.out _ hmem hgt)] at h1
                      exact h1
                    clear hrow2 hmem
                    go_upto_region 27 with fail
                    have r0 := fun xx : Later (fun u v => Below u.heap.size u v) wr.drew => (xx.h.cell (p := ⟨og, q * 5, none⟩) hogl).trans q0
                    have r1 := fun xx : Later (fun u v => Below u.heap.size u v) wr.drew => (xx.h.cell (p := ⟨og, q * 5 + 1, none⟩) hogl).trans q1
                    have r2 := fun xx : Later (fun u v => Below u.heap.size u v) wr.drew => (xx.h.cell (p := ⟨og, q * 5 + 2, none⟩) hogl).trans q2
                    have r3 := fun xx : Later (fun u v => Below u.heap.size u v) wr.drew => (xx.h.cell (p := ⟨og, q * 5 + 3, none⟩) hogl).trans q3
                    have r4 := fun xx : Later (fun u v => Below u.heap.size u v) wr.drew => (xx.h.cell (p := ⟨og, q * 5 + 4, none⟩) hogl).trans q4
                    have s1 := fun xx => blk_cell (later_blk K14.out.at2 xx) 1
                    simp only [List.getElem?_toArray, List.getElem?_cons_zero, List.getElem?_cons_succ] at s1
                    clear q0 q1 q2 q3 q4
                    refine region_ext [0, 0, 0, 0, 0, 0, 0, 0, 0, 0, 0, 0, 0, 0, 0, 2, 1, 1] (by kernel_rfl) (by kernel_rfl) (fun _ _ _ _ _ h => h) ?_
                    simp (decide := true) only [pick, ↓reduceIte]
                    repeat go_big_quiet_step (fail)
                    refine wpQuiet_nil ?_
                    refine wpF_guard rfl ?_
                    go_step
                    refine (ham _ K14.out.drew).mono ?_
                    rintro e w15 ⟨rfl, hb⟩
                    have K15 := Hd.mk (K14.out.drew.ext hb)
                    refine ⟨hb, wpF_nil ?_⟩
                    clear r0 r1 r2 r3 r4 s1 hb K14 ham
                    go_wp2_with fail
                    go_roundw
                    case rel => exact ⟨q + 1, by go_num, HQL, K15⟩
                    case measure => have := HQL.out; simp [intOf]; omega
                  · have s1 := blk_cell K14.out.at2 1
                    simp only [List.getElem?_toArray, List.getElem?_cons_zero, List.getElem?_cons_succ] at s1
                    clear hrow2 hmem
                    go_upto_region 27 with fail
                    go_quiet (fail)
                    clear s1 q0 q1 q2 q3 q4
                    go_wp2_with fail
                    go_roundw
                    case rel => exact ⟨q + 1, by go_num, HQL, ⟨K14.out.drewN nq⟩⟩
                    case measure => have := HQL.out; simp [intOf]; omega
                · have hnq : ¬ (q : Int) < (L1.length : Int) := by omega
                  have K15 : Hd (RX w wr b Dz [(BL, #[.int .i64 lk, .int .i64 (nn : Int), .int .i64 lsl, .int .i64 lsz, .string ⟨lsum.toArray⟩], 28), (NY, #[.int .i64 yk, .int .i64 yn, .int .i64 ysl, .int .i64 ysz, .string ⟨ysum.toArray⟩], 28)] []) := ⟨rx_five K14.out⟩
                  clear K14 hql
                  have a0 := blk_cell K15.out.at1 0
                  have a1 := blk_cell K15.out.at1 1
                  have a2 := blk_cell K15.out.at1 2
                  have a3 := blk_cell K15.out.at1 3
                  have a4 := blk_cell K15.out.at1 4
                  have d0 := blk_cell K15.out.at0 0
                  have d1 := blk_cell K15.out.at0 1
                  have d2 := blk_cell K15.out.at0 2
                  have d3 := blk_cell K15.out.at0 3
                  have d4 := blk_cell K15.out.at0 4
                  have f0 := blk_free K15.out.at0 0
                  have f1 := blk_free K15.out.at0 1
                  have f2 := blk_free K15.out.at0 2
                  have f3 := blk_free K15.out.at0 3
                  have f4 := blk_free K15.out.at0 4
                  simp only [List.getElem?_toArray, List.getElem?_cons_zero, List.getElem?_cons_succ] at a0 a1 a2 a3 a4 d0 d1 d2 d3 d4
                  have hset : RX w (((((wr.setCell ⟨BL, 0, none⟩ (.int .i64 yk)).setCell ⟨BL, 1, none⟩ (.int .i64 yn)).setCell ⟨BL, 2, none⟩ (.int .i64 ysl)).setCell ⟨BL, 3, none⟩ (.int .i64 ysz)).setCell ⟨BL, 4, none⟩ (.string ⟨ysum.toArray⟩)) b Dz [(BL, #[.int .i64 yk, .int .i64 yn, .int .i64 ysl, .int .i64 ysz, .string ⟨ysum.toArray⟩], 28), (NY, #[.int .i64 yk, .int .i64 yn, .int .i64 ysl, .int .i64 ysz, .string ⟨ysum.toArray⟩], 28)] [] := ((((K15.out.set 0 (.int .i64 yk)).set 1 (.int .i64 yn)).set 2 (.int .i64 ysl)).set 3 (.int .i64 ysz)).set 4 (.string ⟨ysum.toArray⟩)
                  have hfin : RX w (((((wr.setCell ⟨BL, 0, none⟩ (.int .i64 yk)).setCell ⟨BL, 1, none⟩ (.int .i64 yn)).setCell ⟨BL, 2, none⟩ (.int .i64 ysl)).setCell ⟨BL, 3, none⟩ (.int .i64 ysz)).setCell ⟨BL, 4, none⟩ (.string ⟨ysum.toArray⟩)) b Dz [(BL, #[.int .i64 yk, .int .i64 yn, .int .i64 ysl, .int .i64 ysz, .string ⟨ysum.toArray⟩], 28)] [] := rx_first hset
                  have HFIN := Hd.mk hfin
                  clear hset hfin K15
                  go_wp2_with fail
                  go_roundw
                  case rel => exact ⟨j + 1, n2, Dz, ⟨yk, yn, ysl, ysz, ysum⟩, by go_num, by rw [HU.out], ⟨by have := HJ2.out; omega⟩, HFIN, HRI⟩
                  case measure => have := HJ2.out; simp [intOf]; omega
    · have hex : ¬ (j : Int) < (n : Int) ∨ ((j : Int) < (n : Int) ∧ ¬ (j : Int) < 40) := by omega
      clear hlt
      rcases hex with hex | ⟨hex1, hex2⟩
      all_goals
        go_wp2_with fail
        refine (known5_c _).mono ?_
        rintro e w4 ⟨rfl, hb⟩
        have K4 := Hd.mk (HS.out.ext hb)
        clear hb HS
        go_wp2_with fail
        go_ret
        exact ⟨rfl, K4.out.bel⟩
end Go.Proofs.Ytkdakmddlkgjkaa
