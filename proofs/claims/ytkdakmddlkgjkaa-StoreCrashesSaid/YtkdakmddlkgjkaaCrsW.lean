import Derived.Outline
import Derived.Test.YtkdakmddlkgjkaaCrs
open Go.RowKit Go.Lib
namespace Go.Proofs.Ytkdakmddlkgjkaa
set_option maxRecDepth 100000
open Sha
/-! StoreCrashes' walk. -/
set_option maxHeartbeats 8000000 in
theorem scrash_c (v : Value) (w : World) (hv : OpsAt w v) : Calls Try.prog 11 #[v] w fun e w' => e = .returned (.bool true) ∧ Below w.heap.size w w' := by
  obtain ⟨av, n, c, rfl, hn, hat⟩ := hv.uni
  have hnew := new_dk 40 (by decide) (by decide) w
  have hso := sopen_gd cinv_new.qu cinv_new.gd
  have hopen0 : ∀ {w1 b}, DK w w1 b (Ds0 40) → Calls Try.prog 41 #[.pointer (some ⟨b, 0, none⟩)] w1 fun e w' => ∃ p, e = .returned (.tuple #[.pointer (some ⟨p, 0, none⟩), .int .i64 0]) ∧ SD w w' b p (Ds0 40) K0 false none ∧ Below w1.heap.size w1 w' ∧ w1.heap.size ≤ p ∧ StAt w' p b K0 false none := fun {w1 b} h => h.opens hso
  have HL0 := Hd.mk cinv_new
  obtain ⟨D0, hD0⟩ : ∃ D, Ds0 40 = D := ⟨_, rfl⟩
  rw [hD0] at hnew hopen0 HL0
  have HAT := Hd.mk hat
  clear hD0 hso hat hv
  go_enter Try.func11, Try.ntmps11
  go_wp2_with fail
  refine hnew.mono ?_
  rintro e w1 ⟨b, rfl, hd⟩
  have K1 := Hd.mk hd
  clear hd hnew
  go_wp2_with fail
  refine (hopen0 K1.out).mono ?_
  rintro e w2 ⟨p0, rfl, hd, -, -, -⟩
  have K2 := Hd.mk hd
  clear hd K1 hopen0
  go_wp2_with fail
  go_loopw [5, 7, 8, 9] (fun sv tx hs i wr => ∃ (p j : Nat) (D : Ds) (k : Kp) (q : Nat), sv = .pointer (some ⟨p, 0, none⟩) ∧ i = .int .i64 (j : Int) ∧ tx = .string ⟨(txt k).toArray⟩ ∧ hs = .bool (has k) ∧ Hd (j ≤ 30 ∧ j ≤ n) ∧ Hd (SD w wr b p D k false none) ∧ Hd (CInv D k q j)) (fun _ _ _ i _ => 30 - (intOf i).toNat)
  case atStart => exact ⟨p0, 0, D0, K0, 0, rfl, rfl, rfl, rfl, ⟨Nat.zero_le _, Nat.zero_le _⟩, K2, HL0⟩
  case round =>
    clear K2 HL0
    obtain ⟨p, j, D, k, q, rfl, rfl, rfl, rfl, HJ, HS, HL⟩ := hrel
    obtain ⟨T, hT⟩ : ∃ T, txt k = T := ⟨_, rfl⟩
    obtain ⟨B, hB⟩ : ∃ B, has k = B := ⟨_, rfl⟩
    have HTB := Hd.mk (And.intro hT hB)
    rw [hT, hB]
    have htx : ∀ {w1 p D X}, SX w w1 b p D k false none X → Calls Try.prog 45 #[.pointer (some ⟨p, 0, none⟩)] w1 fun e w' => e = .returned (.tuple #[.string ⟨T.toArray⟩, .bool B]) ∧ w1 = w' := fun {w1 p D X} h => by
      have h2 := h.text
      rw [hT, hB] at h2
      exact h2
    have hTT : (T != T) = false := by simp
    have hBB : (B != B) = false := by simp
    have hTT2 : (T == T) = true := by simp
    have hBB2 : (B == B) = true := by simp
    clear hT hB
    by_cases hlt : j < n ∧ j < 30
    · obtain ⟨blk, off, kd, s, x, m, rfl, hblk, hc0, hc1, hc2, hc3, hx, hm⟩ := HAT.out j hlt.1
      have hbel := HS.out.bel
      have c0 := (hbel.cell (p := ⟨blk, off + j * 4, none⟩) hblk).trans hc0
      have c1 := (hbel.cell (p := ⟨blk, off + j * 4 + 1, none⟩) hblk).trans hc1
      have c2 := (hbel.cell (p := ⟨blk, off + j * 4 + 2, none⟩) hblk).trans hc2
      have c3 := (hbel.cell (p := ⟨blk, off + j * 4 + 3, none⟩) hblk).trans hc3
      have u1 : (0 : Int) ≤ (j : Int) := by omega
      have u2 : (j : Int) < (n : Int) := by omega
      have u3 : (j : Int) < 30 := by omega
      have HJ2 := Hd.mk hlt
      have HXM := Hd.mk (And.intro hx hm)
      clear hc0 hc1 hc2 hc3 hbel hlt hx hm
      obtain ⟨NO, hNO⟩ : ∃ NO, wr.heap.size = NO := ⟨_, rfl⟩
      have hpu := HS.out.push #[.int .i64 kd, .string ⟨s.toArray⟩, .int .i64 x, .int .u64 (m : Int)] 87
      rw [hNO] at hpu
      have HS1 : Hd (SX w (wr.alloc (.cells #[.int .i64 kd, .string ⟨s.toArray⟩, .int .i64 x, .int .u64 (m : Int)] 87 (0, 0))) b p D k false none [(NO, #[.int .i64 kd, .string ⟨s.toArray⟩, .int .i64 x, .int .u64 (m : Int)], 87)]) := ⟨hpu⟩
      clear hpu
      by_cases hs : 1000 < s.length
      · have hs1 : (1000 : Int) < (s.length : Int) := by omega
        clear hs htx hNO
        go_wp2_with fail
        refine (known7_c _).mono ?_
        rintro e w3 ⟨rfl, hb⟩
        have K3 := Hd.mk (HS1.out.ext hb)
        clear hb HS1
        go_wp2_with fail
        go_ret
        exact ⟨rfl, K3.out.bel⟩
      have hs1 : ¬ (1000 : Int) < (s.length : Int) := by omega
      have HSL := Hd.mk hs
      clear hs
      by_cases hk3 : kd = 3
      · have hk3b : (kd == 3) = true := by rw [beq_iff_eq]; exact hk3
        clear hk3
        obtain ⟨r, hr⟩ : ∃ r : Nat, (if x < 0 then -(x + 1) else x) % 40 = (r : Int) := ⟨((if x < 0 then -(x + 1) else x) % 40).toNat, by omega⟩
        have hr40 : r < 40 := by omega
        have hcnt : ∀ w, Calls Try.prog 20 #[.int .i64 x, .int .i64 40] w fun e w' => e = .returned (.int .i64 (r : Int)) ∧ w = w' := by
          intro w; rw [← hr]; exact count_c x 40 w HXM.out.1 (by decide)
        have HR := Hd.mk hr40
        clear hr hr40
        go_upto_region 14 with fail
        refine wp_world (fun w' => SX w w' b p D k false none [(NO, #[.int .i64 kd, .string ⟨s.toArray⟩, .int .i64 x, .int .u64 (m : Int)], 87)]) HS1.out ?_
        clear HS1 c0 c1 c2 c3
        rintro w3 hd
        have K3 := Hd.mk hd
        clear hd
        have y2 := fun xx => blk_cell (later_blk K3.out.at0 xx) 2
        have y3 := fun xx => blk_cell (later_blk K3.out.at0 xx) 3
        simp only [List.getElem?_toArray, List.getElem?_cons_zero, List.getElem?_cons_succ] at y2 y3
        refine region_ext [0, 0, 0, 2, 0, 0, 1] (by kernel_rfl) (by kernel_rfl) (fun _ _ _ _ _ h => h) ?_
        simp (decide := true) only [pick, ↓reduceIte]
        repeat go_big_quiet_step (fail)
        refine wpQuiet_nil ?_
        refine wpF_plain rfl ?_
        go_step
        refine (hcnt _).mono ?_
        rintro e w' ⟨rfl, rfl⟩
        refine ⟨Below.refl _ _, wpF_nil ?_⟩
        clear y2 y3 hcnt
        go_wp2_with fail
        refine (K3.out.drew.plan r m (by have := HR.out; omega) HXM.out.2).mono ?_
        rintro e w4 ⟨rfl, hd⟩
        have K4 := Hd.mk hd
        clear hd K3
        go_wp2_with fail
        go_roundw
        case rel => exact ⟨p, j + 1, D.plan r m, k, q, rfl, by go_num, by rw [HTB.out.1], by rw [HTB.out.2], ⟨by have := HJ2.out; omega⟩, ⟨K4.out.pop⟩, ⟨HL.out.plan r m⟩⟩
        case measure => have := HJ2.out; simp [intOf]; omega
      have hk3b : (kd == 3) = false := by rw [beq_eq_false_iff_ne]; exact hk3
      clear hk3
      have hpr := HS1.out.prep (by have := HL.out.ops; have := HJ2.out; omega) (by have := HL.out.gh; have := HJ2.out; omega) (by have := HL.out.kt; omega) s (by have := HSL.out; omega)
      rcases HL.out.prep HS.out.dk.ok (by have := HJ2.out; omega) s (by have := HSL.out; omega) with ⟨D1, k2, hr, g1, g2, g3, g4, g5, g6, g7, g8⟩ | ⟨D1, q1, hr, g1⟩
      case inr =>
        rw [hr] at hpr
        have HPP := Hd.mk g1
        clear hr g1 HS1
        go_wp2_with fail
        refine hpr.mono ?_
        rintro e w3 ⟨rfl, hd⟩
        have K3 : Hd (SX w w3 b p D1 k false none [(NO, #[.int .i64 kd, .string ⟨s.toArray⟩, .int .i64 x, .int .u64 (m : Int)], 87)]) := ⟨hd⟩
        clear hd hpr
        obtain ⟨Dz, hDz⟩ : ∃ Dz, (D1.fail m).start = Dz := ⟨_, rfl⟩
        have HCI : Hd (CInv Dz k (q1) (j + 1)) := ⟨hDz ▸ (HPP.out).on m⟩
        have hso := sopen_gd HCI.out.qu HCI.out.gd
        have y0 := blk_cell K3.out.at0 0
        have y3 := blk_cell K3.out.at0 3
        simp only [List.getElem?_toArray, List.getElem?_cons_zero, List.getElem?_cons_succ] at y0 y3
        go_wp2_with fail
        refine (K3.out.fail m).mono ?_
        rintro e w5 ⟨rfl, hd⟩
        have K5 := Hd.mk hd
        clear hd y0 y3
        go_wp2_with fail
        refine (K5.out.start).mono ?_
        rintro e w6 ⟨rfl, hd⟩
        rw [hDz] at hd
        have K6 := Hd.mk hd
        clear hd K5 hDz
        go_wp2_with fail
        refine (K6.out.opens hso).mono ?_
        rintro e w7 ⟨p3, rfl, hd, -⟩
        have K7 := Hd.mk hd
        clear hd K6
        go_wp2_with fail
        refine (K7.out.opens hso).mono ?_
        rintro e w8 ⟨p4, rfl, hd, hb⟩
        have K8 := Hd.mk hd
        have K7b := Hd.mk (K7.out.ext hb)
        clear hd hb K7 hso
        go_wp2_with fail
        refine (K7b.out.isodd).mono ?_
        rintro e w' ⟨rfl, rfl⟩
        go_wp2_with fail
        refine (htx K7b.out).mono ?_
        rintro e w' ⟨rfl, rfl⟩
        go_wp2_with fail
        refine (htx K8.out).mono ?_
        rintro e w' ⟨rfl, rfl⟩
        have y1 := blk_cell K8.out.at0 1
        simp only [List.getElem?_toArray, List.getElem?_cons_zero, List.getElem?_cons_succ] at y1
        rcases Bool.eq_false_or_eq_true (T == s) with e1 | e1
        all_goals
          go_wp2_with fail
          go_roundw
          case rel => exact ⟨p3, j + 1, Dz, k, q1, rfl, by go_num, by rw [HTB.out.1], by rw [HTB.out.2], ⟨by have := HJ2.out; omega⟩, ⟨K7b.out.pop⟩, HCI⟩
          case measure => have := HJ2.out; simp [intOf]; omega
      rw [hr] at hpr
      have HG := Hd.mk (And.intro g1 (And.intro g2 (And.intro g3 (And.intro g6 (And.intro g7 g8)))))
      have hk2l : k2.tx.length ≤ 1000 := by rw [g4]; have := HSL.out; omega
      have HK2 := Hd.mk hk2l
      have HT2 : Hd (txt k2 = s ∧ has k2 = true) := ⟨by obtain ⟨h1, h2⟩ := txt_of g5; rw [g4] at h1; exact ⟨h1, h2⟩⟩
      clear hr g1 g2 g3 g4 g5 g6 g7 g8 HS1 hk2l
      by_cases hk2 : kd = 2
      · have hk2b : (kd == 2) = true := by rw [beq_iff_eq]; exact hk2
        have hk2c : (kd != 2) = false := by rw [bne_eq_false_iff_eq]; exact hk2
        clear hk2
        go_wp2_with fail
        refine hpr.mono ?_
        rintro e w3 ⟨rfl, hd⟩
        have K3 : Hd (SX w w3 b p D1 k false (some k2) [(NO, #[.int .i64 kd, .string ⟨s.toArray⟩, .int .i64 x, .int .u64 (m : Int)], 87)]) := ⟨hd⟩
        clear hd hpr
        have y0 := blk_cell K3.out.at0 0
        simp only [List.getElem?_toArray, List.getElem?_cons_zero] at y0
        have hdr := K3.out.drop (by have := HG.out.2.2.2.2.1; have := HJ2.out; omega) (by have := HG.out.2.2.2.2.2; have := HJ2.out; omega) (by have := HL.out.kt; omega)
        have hpp : ∃ cc e D2 q2, app D1 (k.ent 3) = (cc, e, D2) ∧ CPre D2 k q2 j := by
          obtain ⟨a1, a2, a3, a4, a5, a6⟩ := HG.out
          rcases put_pre a1 a2 (by have := HL.out.hn; omega) (by have := HJ2.out; omega) a2.kv a4 a5 a6 HL.out.kt HL.out.kt 3 (by decide) with ⟨e, D2, b1, b2⟩ | ⟨e, D2, b1, b2 | b2⟩
          · exact ⟨_, _, _, _, b1, b2⟩
          · exact ⟨_, _, _, _, b1, b2⟩
          · exact ⟨_, _, _, _, b1, b2⟩
        obtain ⟨cc, ee, D2, q2, hr2, hpp⟩ := hpp
        rw [hr2] at hdr
        have HPP := Hd.mk hpp
        clear hr2 hpp
        go_wp2_with fail
        refine hdr.mono ?_
        rintro e w4 ⟨rfl, hd⟩
        have K4 : Hd (SX w w4 b p D2 k false none [(NO, #[.int .i64 kd, .string ⟨s.toArray⟩, .int .i64 x, .int .u64 (m : Int)], 87)]) := ⟨hd⟩
        clear hd hdr K3 y0
        obtain ⟨Dz, hDz⟩ : ∃ Dz, (D2.fail m).start = Dz := ⟨_, rfl⟩
        have HCI : Hd (CInv Dz k (q2) (j + 1)) := ⟨hDz ▸ (HPP.out).on m⟩
        have hso := sopen_gd HCI.out.qu HCI.out.gd
        have y0 := blk_cell K4.out.at0 0
        have y3 := blk_cell K4.out.at0 3
        simp only [List.getElem?_toArray, List.getElem?_cons_zero, List.getElem?_cons_succ] at y0 y3
        go_wp2_with fail
        refine (K4.out.fail m).mono ?_
        rintro e w5 ⟨rfl, hd⟩
        have K5 := Hd.mk hd
        clear hd y0 y3
        go_wp2_with fail
        refine (K5.out.start).mono ?_
        rintro e w6 ⟨rfl, hd⟩
        rw [hDz] at hd
        have K6 := Hd.mk hd
        clear hd K5 hDz
        go_wp2_with fail
        refine (K6.out.opens hso).mono ?_
        rintro e w7 ⟨p3, rfl, hd, -⟩
        have K7 := Hd.mk hd
        clear hd K6
        go_wp2_with fail
        refine (K7.out.opens hso).mono ?_
        rintro e w8 ⟨p4, rfl, hd, hb⟩
        have K8 := Hd.mk hd
        have K7b := Hd.mk (K7.out.ext hb)
        clear hd hb K7 hso
        go_wp2_with fail
        refine (K7b.out.isodd).mono ?_
        rintro e w' ⟨rfl, rfl⟩
        go_wp2_with fail
        refine (htx K7b.out).mono ?_
        rintro e w' ⟨rfl, rfl⟩
        go_wp2_with fail
        refine (htx K8.out).mono ?_
        rintro e w' ⟨rfl, rfl⟩
        have y1 := blk_cell K8.out.at0 1
        simp only [List.getElem?_toArray, List.getElem?_cons_zero, List.getElem?_cons_succ] at y1
        rcases Bool.eq_false_or_eq_true (T == s) with e1 | e1
        all_goals
          go_wp2_with fail
          go_roundw
          case rel => exact ⟨p3, j + 1, Dz, k, q2, rfl, by go_num, by rw [HTB.out.1], by rw [HTB.out.2], ⟨by have := HJ2.out; omega⟩, ⟨K7b.out.pop⟩, HCI⟩
          case measure => have := HJ2.out; simp [intOf]; omega
      have hk2b : (kd == 2) = false := by rw [beq_eq_false_iff_ne]; exact hk2
      have hk2c : (kd != 2) = true := by rw [bne_iff_ne]; exact hk2
      clear hk2
      go_wp2_with fail
      refine hpr.mono ?_
      rintro e w3 ⟨rfl, hd⟩
      have K3 : Hd (SX w w3 b p D1 k false (some k2) [(NO, #[.int .i64 kd, .string ⟨s.toArray⟩, .int .i64 x, .int .u64 (m : Int)], 87)]) := ⟨hd⟩
      clear hd hpr
      have y0 := blk_cell K3.out.at0 0
      simp only [List.getElem?_toArray, List.getElem?_cons_zero] at y0
      have hcm := K3.out.commit (by have := HG.out.2.2.2.2.1; have := HJ2.out; omega) (by have := HG.out.2.2.2.2.2; have := HJ2.out; omega) (by have := HK2.out; omega)
      have hpp := put_pre HG.out.1 HG.out.2.1 (by have := HL.out.hn; omega) (by have := HJ2.out; omega) HG.out.2.2.1 HG.out.2.2.2.1 HG.out.2.2.2.2.1 HG.out.2.2.2.2.2 HL.out.kt HK2.out 2 (by decide)
      rcases hpp with ⟨ee, D2, hr2, hpp⟩ | ⟨ee, D2, hr2, hpp | hpp⟩
      · rw [hr2] at hcm
        have HPP := Hd.mk hpp
        clear hr2 hpp
        go_wp2_with fail
        refine hcm.mono ?_
        rintro e w4 ⟨rfl, hd⟩
        have K4 : Hd (SX w w4 b p D2 k2 false none [(NO, #[.int .i64 kd, .string ⟨s.toArray⟩, .int .i64 x, .int .u64 (m : Int)], 87)]) := ⟨hd⟩
        clear hd hcm K3 y0
        obtain ⟨Dz, hDz⟩ : ∃ Dz, (D2.fail m).start = Dz := ⟨_, rfl⟩
        have HCI : Hd (CInv Dz k2 (q + 1 + 1) (j + 1)) := ⟨hDz ▸ (HPP.out).on m⟩
        have hso := sopen_gd HCI.out.qu HCI.out.gd
        have htx2 : ∀ {w1 p D X}, SX w w1 b p D k2 false none X → Calls Try.prog 45 #[.pointer (some ⟨p, 0, none⟩)] w1 fun e w' => e = .returned (.tuple #[.string ⟨s.toArray⟩, .bool true]) ∧ w1 = w' := fun {w1 p D X} h => by
          have h2 := h.text
          rw [HT2.out.1, HT2.out.2] at h2
          exact h2
        have y0 := blk_cell K4.out.at0 0
        have y3 := blk_cell K4.out.at0 3
        simp only [List.getElem?_toArray, List.getElem?_cons_zero, List.getElem?_cons_succ] at y0 y3
        go_wp2_with fail
        refine (K4.out.fail m).mono ?_
        rintro e w5 ⟨rfl, hd⟩
        have K5 := Hd.mk hd
        clear hd y0 y3
        go_wp2_with fail
        refine (K5.out.start).mono ?_
        rintro e w6 ⟨rfl, hd⟩
        rw [hDz] at hd
        have K6 := Hd.mk hd
        clear hd K5 hDz
        go_wp2_with fail
        refine (K6.out.opens hso).mono ?_
        rintro e w7 ⟨p3, rfl, hd, -⟩
        have K7 := Hd.mk hd
        clear hd K6
        go_wp2_with fail
        refine (K7.out.opens hso).mono ?_
        rintro e w8 ⟨p4, rfl, hd, hb⟩
        have K8 := Hd.mk hd
        have K7b := Hd.mk (K7.out.ext hb)
        clear hd hb K7 hso
        go_wp2_with fail
        refine (K7b.out.isodd).mono ?_
        rintro e w' ⟨rfl, rfl⟩
        go_wp2_with fail
        refine (htx2 K7b.out).mono ?_
        rintro e w' ⟨rfl, rfl⟩
        go_wp2_with fail
        refine (htx2 K8.out).mono ?_
        rintro e w' ⟨rfl, rfl⟩
        have y1 := blk_cell K8.out.at0 1
        simp only [List.getElem?_toArray, List.getElem?_cons_zero, List.getElem?_cons_succ] at y1
        have e2 : (s == s) = true := by simp
        have e3 : (s != s) = false := by simp
        rcases Bool.eq_false_or_eq_true (s == T) with e1 | e1
        · cases B
          all_goals
            go_wp2_with fail
            go_roundw
            case rel => exact ⟨p3, j + 1, Dz, k2, q + 1 + 1, rfl, by go_num, by rw [HT2.out.1], by rw [HT2.out.2], ⟨by have := HJ2.out; omega⟩, ⟨K7b.out.pop⟩, HCI⟩
            case measure => have := HJ2.out; simp [intOf]; omega
        · go_wp2_with fail
          go_roundw
          case rel => exact ⟨p3, j + 1, Dz, k2, q + 1 + 1, rfl, by go_num, by rw [HT2.out.1], by rw [HT2.out.2], ⟨by have := HJ2.out; omega⟩, ⟨K7b.out.pop⟩, HCI⟩
          case measure => have := HJ2.out; simp [intOf]; omega
      · rw [hr2] at hcm
        have HPP := Hd.mk hpp
        clear hr2 hpp
        go_wp2_with fail
        refine hcm.mono ?_
        rintro e w4 ⟨rfl, hd⟩
        have K4 : Hd (SX w w4 b p D2 k false none [(NO, #[.int .i64 kd, .string ⟨s.toArray⟩, .int .i64 x, .int .u64 (m : Int)], 87)]) := ⟨hd⟩
        clear hd hcm K3 y0
        obtain ⟨Dz, hDz⟩ : ∃ Dz, (D2.fail m).start = Dz := ⟨_, rfl⟩
        have HCI : Hd (CInv Dz k (q + 1) (j + 1)) := ⟨hDz ▸ (HPP.out).on m⟩
        have hso := sopen_gd HCI.out.qu HCI.out.gd
        have y0 := blk_cell K4.out.at0 0
        have y3 := blk_cell K4.out.at0 3
        simp only [List.getElem?_toArray, List.getElem?_cons_zero, List.getElem?_cons_succ] at y0 y3
        go_wp2_with fail
        refine (K4.out.fail m).mono ?_
        rintro e w5 ⟨rfl, hd⟩
        have K5 := Hd.mk hd
        clear hd y0 y3
        go_wp2_with fail
        refine (K5.out.start).mono ?_
        rintro e w6 ⟨rfl, hd⟩
        rw [hDz] at hd
        have K6 := Hd.mk hd
        clear hd K5 hDz
        go_wp2_with fail
        refine (K6.out.opens hso).mono ?_
        rintro e w7 ⟨p3, rfl, hd, -⟩
        have K7 := Hd.mk hd
        clear hd K6
        go_wp2_with fail
        refine (K7.out.opens hso).mono ?_
        rintro e w8 ⟨p4, rfl, hd, hb⟩
        have K8 := Hd.mk hd
        have K7b := Hd.mk (K7.out.ext hb)
        clear hd hb K7 hso
        go_wp2_with fail
        refine (K7b.out.isodd).mono ?_
        rintro e w' ⟨rfl, rfl⟩
        go_wp2_with fail
        refine (htx K7b.out).mono ?_
        rintro e w' ⟨rfl, rfl⟩
        go_wp2_with fail
        refine (htx K8.out).mono ?_
        rintro e w' ⟨rfl, rfl⟩
        have y1 := blk_cell K8.out.at0 1
        simp only [List.getElem?_toArray, List.getElem?_cons_zero, List.getElem?_cons_succ] at y1
        rcases Bool.eq_false_or_eq_true (T == s) with e1 | e1
        all_goals
          go_wp2_with fail
          go_roundw
          case rel => exact ⟨p3, j + 1, Dz, k, q + 1, rfl, by go_num, by rw [HTB.out.1], by rw [HTB.out.2], ⟨by have := HJ2.out; omega⟩, ⟨K7b.out.pop⟩, HCI⟩
          case measure => have := HJ2.out; simp [intOf]; omega
      · rw [hr2] at hcm
        have HPP := Hd.mk hpp
        clear hr2 hpp
        go_wp2_with fail
        refine hcm.mono ?_
        rintro e w4 ⟨rfl, hd⟩
        have K4 : Hd (SX w w4 b p D2 k false none [(NO, #[.int .i64 kd, .string ⟨s.toArray⟩, .int .i64 x, .int .u64 (m : Int)], 87)]) := ⟨hd⟩
        clear hd hcm K3 y0
        obtain ⟨Dz, hDz⟩ : ∃ Dz, (D2.fail m).start = Dz := ⟨_, rfl⟩
        have HCI : Hd (CInv Dz k2 (q + 1 + 1) (j + 1)) := ⟨hDz ▸ (HPP.out).on m⟩
        have hso := sopen_gd HCI.out.qu HCI.out.gd
        have htx2 : ∀ {w1 p D X}, SX w w1 b p D k2 false none X → Calls Try.prog 45 #[.pointer (some ⟨p, 0, none⟩)] w1 fun e w' => e = .returned (.tuple #[.string ⟨s.toArray⟩, .bool true]) ∧ w1 = w' := fun {w1 p D X} h => by
          have h2 := h.text
          rw [HT2.out.1, HT2.out.2] at h2
          exact h2
        have y0 := blk_cell K4.out.at0 0
        have y3 := blk_cell K4.out.at0 3
        simp only [List.getElem?_toArray, List.getElem?_cons_zero, List.getElem?_cons_succ] at y0 y3
        go_wp2_with fail
        refine (K4.out.fail m).mono ?_
        rintro e w5 ⟨rfl, hd⟩
        have K5 := Hd.mk hd
        clear hd y0 y3
        go_wp2_with fail
        refine (K5.out.start).mono ?_
        rintro e w6 ⟨rfl, hd⟩
        rw [hDz] at hd
        have K6 := Hd.mk hd
        clear hd K5 hDz
        go_wp2_with fail
        refine (K6.out.opens hso).mono ?_
        rintro e w7 ⟨p3, rfl, hd, -⟩
        have K7 := Hd.mk hd
        clear hd K6
        go_wp2_with fail
        refine (K7.out.opens hso).mono ?_
        rintro e w8 ⟨p4, rfl, hd, hb⟩
        have K8 := Hd.mk hd
        have K7b := Hd.mk (K7.out.ext hb)
        clear hd hb K7 hso
        go_wp2_with fail
        refine (K7b.out.isodd).mono ?_
        rintro e w' ⟨rfl, rfl⟩
        go_wp2_with fail
        refine (htx2 K7b.out).mono ?_
        rintro e w' ⟨rfl, rfl⟩
        go_wp2_with fail
        refine (htx2 K8.out).mono ?_
        rintro e w' ⟨rfl, rfl⟩
        have y1 := blk_cell K8.out.at0 1
        simp only [List.getElem?_toArray, List.getElem?_cons_zero, List.getElem?_cons_succ] at y1
        have e2 : (s == s) = true := by simp
        have e3 : (s != s) = false := by simp
        rcases Bool.eq_false_or_eq_true (s == T) with e1 | e1
        · cases B
          all_goals
            go_wp2_with fail
            go_roundw
            case rel => exact ⟨p3, j + 1, Dz, k2, q + 1 + 1, rfl, by go_num, by rw [HT2.out.1], by rw [HT2.out.2], ⟨by have := HJ2.out; omega⟩, ⟨K7b.out.pop⟩, HCI⟩
            case measure => have := HJ2.out; simp [intOf]; omega
        · go_wp2_with fail
          go_roundw
          case rel => exact ⟨p3, j + 1, Dz, k2, q + 1 + 1, rfl, by go_num, by rw [HT2.out.1], by rw [HT2.out.2], ⟨by have := HJ2.out; omega⟩, ⟨K7b.out.pop⟩, HCI⟩
          case measure => have := HJ2.out; simp [intOf]; omega
    · have hex : ¬ (j : Int) < (n : Int) ∨ ((j : Int) < (n : Int) ∧ ¬ (j : Int) < 30) := by omega
      clear hlt htx
      rcases hex with hex | ⟨hex1, hex2⟩
      all_goals
        go_wp2_with fail
        refine (known7_c _).mono ?_
        rintro e w4 ⟨rfl, hb⟩
        have K4 := Hd.mk (HS.out.ext hb)
        clear hb HS
        go_wp2_with fail
        go_ret
        exact ⟨rfl, K4.out.bel⟩
end Go.Proofs.Ytkdakmddlkgjkaa
