import Derived.Outline
import Derived.Test.YtkdakmddlkgjkaaLst
open Go.RowKit Go.Lib
namespace Go.Proofs.Ytkdakmddlkgjkaa
set_option maxRecDepth 100000
open Sha
/-! StoreLast's walk. -/
theorem OpsAt.uni {W : World} {v : Value} (h : OpsAt W v) : ∃ (av : Option Addr) (n c : Nat), v = .slice av n c ∧ n ≤ 9223372036854775807 ∧ ∀ i, i < n → ∃ (blk off : Nat) (k : Int) (s : List UInt8) (x : Int) (m : Nat), av = some ⟨blk, off, none⟩ ∧ blk < W.heap.size ∧ W.cell? ⟨blk, off + i * 4, none⟩ = some (.int .i64 k) ∧ W.cell? ⟨blk, off + i * 4 + 1, none⟩ = some (.string ⟨s.toArray⟩) ∧
      W.cell? ⟨blk, off + i * 4 + 2, none⟩ = some (.int .i64 x) ∧ W.cell? ⟨blk, off + i * 4 + 3, none⟩ = some (.int .u64 (m : Int)) ∧ (-9223372036854775808 ≤ x ∧ x ≤ 9223372036854775807) ∧ m < 18446744073709551616 := by
  rcases h with ⟨a, c, rfl⟩ | ⟨n, blk, off, c, rfl, _, hn, hb, hi⟩
  · exact ⟨a, 0, c, rfl, by omega, fun i hi => by omega⟩
  · refine ⟨some ⟨blk, off, none⟩, n, c, rfl, hn, fun i hin => ?_⟩
    obtain ⟨k, s, x, m, h0, h1, h2, h3, h4, h5⟩ := hi i hin
    exact ⟨blk, off, k, s, x, m, rfl, hb, h0, h1, h2, h3, h4, h5⟩
set_option maxHeartbeats 4000000 in
theorem slast_c (v : Value) (w : World) (hv : OpsAt w v) : Calls Try.prog 10 #[v] w fun e w' => e = .returned (.bool true) ∧ Below w.heap.size w w' := by
  obtain ⟨av, n, c, rfl, hn, hat⟩ := hv.uni
  have hnew := new_dk 40 (by decide) (by decide) w
  have hso := sopen_gd linv_new.qu linv_new.gd
  have hopen0 : ∀ {w1 b}, DK w w1 b (Ds0 40) → Calls Try.prog 41 #[.pointer (some ⟨b, 0, none⟩)] w1 fun e w' => ∃ p, e = .returned (.tuple #[.pointer (some ⟨p, 0, none⟩), .int .i64 0]) ∧ SD w w' b p (Ds0 40) K0 false none ∧ Below w1.heap.size w1 w' ∧ w1.heap.size ≤ p ∧ StAt w' p b K0 false none := fun {w1 b} h => h.opens hso
  have HL0 := Hd.mk linv_new
  obtain ⟨D0, hD0⟩ : ∃ D, Ds0 40 = D := ⟨_, rfl⟩
  rw [hD0] at hnew hopen0 HL0
  have HAT := Hd.mk hat
  clear hD0 hso hat hv
  go_enter Try.func10, Try.ntmps10
  go_wp2_with fail
  refine hnew.mono ?_
  rintro e w1 ⟨b, rfl, hd⟩
  have K1 := Hd.mk hd
  clear hd hnew
  go_wp2_with fail
  refine (hopen0 K1.out).mono ?_
  rintro e w2 ⟨p, rfl, hd, -, -, -⟩
  have K2 := Hd.mk hd
  clear hd K1 hopen0
  go_wp2_with fail
  go_loopw [7, 8, 9, 10, 11] (fun tx hs nx wt i wr => ∃ (j : Nat) (D : Ds) (k : Kp) (q : Nat) (wk : Option Kp) (nt : List UInt8), i = .int .i64 (j : Int) ∧ tx = .string ⟨(txt k).toArray⟩ ∧ hs = .bool (has k) ∧ nx = .string ⟨nt.toArray⟩ ∧ wt = .bool wk.isSome ∧ Hd (j ≤ 40 ∧ j ≤ n) ∧ Hd (SD w wr b p D k false wk) ∧ Hd (LInv D k q wk nt j)) (fun _ _ _ _ i _ => 40 - (intOf i).toNat)
  case atStart => exact ⟨0, D0, K0, 0, none, [], rfl, rfl, rfl, rfl, rfl, ⟨Nat.zero_le _, Nat.zero_le _⟩, K2, HL0⟩
  case round =>
    clear K2 HL0
    obtain ⟨j, D, k, q, wk, nt, rfl, rfl, rfl, rfl, rfl, HJ, HS, HL⟩ := hrel
    obtain ⟨T, hT⟩ : ∃ T, txt k = T := ⟨_, rfl⟩
    obtain ⟨B, hB⟩ : ∃ B, has k = B := ⟨_, rfl⟩
    have HTB := Hd.mk (And.intro hT hB)
    rw [hT, hB]
    have htx : ∀ {w1 D wk X}, SX w w1 b p D k false wk X → Calls Try.prog 45 #[.pointer (some ⟨p, 0, none⟩)] w1 fun e w' => e = .returned (.tuple #[.string ⟨T.toArray⟩, .bool B]) ∧ w1 = w' := fun {w1 D wk X} h => by
      have h2 := h.text
      rw [hT, hB] at h2
      exact h2
    have hTT : (T != T) = false := by simp
    have hBB : (B != B) = false := by simp
    clear hT hB
    by_cases hlt : j < n ∧ j < 40
    · obtain ⟨blk, off, kd, s, x, m, rfl, hblk, hc0, hc1, hc2, hc3, hx, hm⟩ := HAT.out j hlt.1
      have hbel := HS.out.bel
      have c0 := (hbel.cell (p := ⟨blk, off + j * 4, none⟩) hblk).trans hc0
      have c1 := (hbel.cell (p := ⟨blk, off + j * 4 + 1, none⟩) hblk).trans hc1
      have c2 := (hbel.cell (p := ⟨blk, off + j * 4 + 2, none⟩) hblk).trans hc2
      have c3 := (hbel.cell (p := ⟨blk, off + j * 4 + 3, none⟩) hblk).trans hc3
      have u1 : (0 : Int) ≤ (j : Int) := by omega
      have u2 : (j : Int) < (n : Int) := by omega
      have u3 : (j : Int) < 40 := by omega
      have HJ2 := Hd.mk hlt
      clear hc0 hc1 hc2 hc3 hbel hlt hx hm
      obtain ⟨NO, hNO⟩ : ∃ NO, wr.heap.size = NO := ⟨_, rfl⟩
      have HS1 := Hd.mk (HS.out.push #[.int .i64 kd, .string ⟨s.toArray⟩, .int .i64 x, .int .u64 (m : Int)] 87)
      by_cases hs : 1000 < s.length
      · have hs1 : (1000 : Int) < (s.length : Int) := by omega
        clear hs htx hNO
        go_wp2_with fail
        refine (known7_c _).mono ?_
        rintro e w3 ⟨rfl, hb⟩
        have K3 := Hd.mk (HS1.out.ext hb)
        clear hb HS1
        go_wp2_with fail
        go_ret
        exact ⟨rfl, K3.out.bel⟩
      have hs1 : ¬ (1000 : Int) < (s.length : Int) := by omega
      have HSL := Hd.mk hs
      clear hs
      by_cases hk0 : kd = 0
      · have hk0b : (kd == 0) = true := by rw [beq_iff_eq]; exact hk0
        obtain ⟨D', k2, hr, hli⟩ := HL.out.prep HS.out.dk.ok HJ2.out.2 s (by have := HSL.out; omega)
        have hpr := HS1.out.prep (by have := HL.out.ops; have := HJ2.out; omega) (by have := HL.out.gh; have := HJ2.out; omega) (by have := HL.out.kt; omega) s (by have := HSL.out; omega)
        rw [hr] at hpr
        have hpr2 : Calls Try.prog 43 #[.pointer (some ⟨p, 0, none⟩), .string ⟨s.toArray⟩] (wr.alloc (.cells #[.int .i64 kd, .string ⟨s.toArray⟩, .int .i64 x, .int .u64 (m : Int)] 87 (0, 0))) fun e w' => e = .returned (.int .i64 0) ∧ SX w w' b p D' k false (some k2) [(wr.heap.size, #[.int .i64 kd, .string ⟨s.toArray⟩, .int .i64 x, .int .u64 (m : Int)], 87)] := hpr
        have HLI := Hd.mk hli
        clear hr hpr hli hk0
        rw [hNO] at hpr2
        clear HS1
        go_wp2_with fail
        refine hpr2.mono ?_
        rintro e w3 ⟨rfl, hd⟩
        have K3 := Hd.mk hd
        clear hd hpr2
        have y1 := blk_cell K3.out.at0 1
        simp only [List.getElem?_toArray, List.getElem?_cons_zero, List.getElem?_cons_succ] at y1
        go_wp2_with fail
        refine (htx K3.out).mono ?_
        rintro e w' ⟨rfl, rfl⟩
        go_wp2_with fail
        refine (K3.out.waits).mono ?_
        rintro e w' ⟨rfl, rfl⟩
        go_wp2_with fail
        go_roundw
        case rel => exact ⟨j + 1, D', k, q + 1, some k2, s, by go_num, by rw [HTB.out.1], by rw [HTB.out.2], rfl, rfl, ⟨by have := HJ2.out; omega⟩, ⟨K3.out.pop⟩, HLI⟩
        case measure => have := HJ2.out; simp [intOf]; omega
      have hk0b : (kd == 0) = false := by rw [beq_eq_false_iff_ne]; exact hk0
      clear hk0
      by_cases hk1 : kd = 1
      · have hk1b : (kd == 1) = true := by rw [beq_iff_eq]; exact hk1
        clear hk1
        cases wk with
        | none =>
          have hcm := HS1.out.commit_no
          go_wp2_with fail
          refine hcm.mono ?_
          rintro e w3 ⟨rfl, hd⟩
          have K3 := Hd.mk hd
          clear hd hcm
          go_wp2_with fail
          refine (htx K3.out).mono ?_
          rintro e w' ⟨rfl, rfl⟩
          go_wp2_with fail
          refine (K3.out.waits).mono ?_
          rintro e w' ⟨rfl, rfl⟩
          simp only [Option.isSome_none]
          go_wp2_with fail
          go_roundw
          case rel => exact ⟨j + 1, D, k, q, none, nt, by go_num, by rw [HTB.out.1], by rw [HTB.out.2], rfl, rfl, ⟨by have := HJ2.out; omega⟩, ⟨K3.out.pop⟩, ⟨HL.out.skip⟩⟩
          case measure => have := HJ2.out; simp [intOf]; omega
        | some k2 =>
          obtain ⟨hv1, hv2, hv3, hv4⟩ := HL.out.wk k2 rfl
          obtain ⟨en, D', hr, hli⟩ := HL.out.put HJ2.out.2 hv1 hv4 2 (by decide)
          have hcm := HS1.out.commit (by have := HL.out.ops; have := HJ2.out; omega) (by have := HL.out.gh; have := HJ2.out; omega) (by omega)
          rw [hr] at hcm
          have hcm2 : Calls Try.prog 44 #[.pointer (some ⟨p, 0, none⟩)] (wr.alloc (.cells #[.int .i64 kd, .string ⟨s.toArray⟩, .int .i64 x, .int .u64 (m : Int)] 87 (0, 0))) fun e w' => e = .returned (.int .i64 0) ∧ SX w w' b p D' k2 false none [(wr.heap.size, #[.int .i64 kd, .string ⟨s.toArray⟩, .int .i64 x, .int .u64 (m : Int)], 87)] := hcm
          obtain ⟨ht1, ht2⟩ := txt_of hv3
          rw [hv2] at ht1
          have htx2 : ∀ {w1 D wk X}, SX w w1 b p D k2 false wk X → Calls Try.prog 45 #[.pointer (some ⟨p, 0, none⟩)] w1 fun e w' => e = .returned (.tuple #[.string ⟨nt.toArray⟩, .bool true]) ∧ w1 = w' := fun {w1 D wk X} h => by
            have h2 := h.text
            rw [ht1, ht2] at h2
            exact h2
          have hNN : (nt != nt) = false := by simp
          have HLI := Hd.mk hli
          have HT2 := Hd.mk (And.intro ht1 ht2)
          clear hr hcm hli hv1 hv2 hv3 hv4 ht1 ht2 htx
          simp only [Option.isSome_some]
          go_wp2_with fail
          refine hcm2.mono ?_
          rintro e w3 ⟨rfl, hd⟩
          have K3 := Hd.mk hd
          clear hd hcm2
          go_wp2_with fail
          refine (htx2 K3.out).mono ?_
          rintro e w' ⟨rfl, rfl⟩
          go_wp2_with fail
          refine (K3.out.waits).mono ?_
          rintro e w' ⟨rfl, rfl⟩
          simp only [Option.isSome_none]
          go_wp2_with fail
          go_roundw
          case rel => exact ⟨j + 1, D', k2, q + 1, none, nt, by go_num, by rw [HT2.out.1], by rw [HT2.out.2], rfl, rfl, ⟨by have := HJ2.out; omega⟩, ⟨K3.out.pop⟩, HLI⟩
          case measure => have := HJ2.out; simp [intOf]; omega
      have hk1b : (kd == 1) = false := by rw [beq_eq_false_iff_ne]; exact hk1
      clear hk1
      by_cases hk2 : kd = 2
      · have hk2b : (kd == 2) = true := by rw [beq_iff_eq]; exact hk2
        clear hk2
        cases wk with
        | none =>
          have hcm := HS1.out.drop_no
          go_wp2_with fail
          refine hcm.mono ?_
          rintro e w3 ⟨rfl, hd⟩
          have K3 := Hd.mk hd
          clear hd hcm
          go_wp2_with fail
          refine (htx K3.out).mono ?_
          rintro e w' ⟨rfl, rfl⟩
          go_wp2_with fail
          refine (K3.out.waits).mono ?_
          rintro e w' ⟨rfl, rfl⟩
          simp only [Option.isSome_none]
          go_wp2_with fail
          go_roundw
          case rel => exact ⟨j + 1, D, k, q, none, nt, by go_num, by rw [HTB.out.1], by rw [HTB.out.2], rfl, rfl, ⟨by have := HJ2.out; omega⟩, ⟨K3.out.pop⟩, ⟨HL.out.skip⟩⟩
          case measure => have := HJ2.out; simp [intOf]; omega
        | some k2 =>
          obtain ⟨en, D', hr, hli⟩ := HL.out.put HJ2.out.2 HL.out.gd.kv HL.out.kt 3 (by decide)
          have hcm := HS1.out.drop (by have := HL.out.ops; have := HJ2.out; omega) (by have := HL.out.gh; have := HJ2.out; omega) (by have := HL.out.kt; omega)
          rw [hr] at hcm
          have hcm2 : Calls Try.prog 47 #[.pointer (some ⟨p, 0, none⟩)] (wr.alloc (.cells #[.int .i64 kd, .string ⟨s.toArray⟩, .int .i64 x, .int .u64 (m : Int)] 87 (0, 0))) fun e w' => e = .returned (.int .i64 0) ∧ SX w w' b p D' k false none [(wr.heap.size, #[.int .i64 kd, .string ⟨s.toArray⟩, .int .i64 x, .int .u64 (m : Int)], 87)] := hcm
          have HLI := Hd.mk hli
          clear hr hcm hli
          simp only [Option.isSome_some]
          go_wp2_with fail
          refine hcm2.mono ?_
          rintro e w3 ⟨rfl, hd⟩
          have K3 := Hd.mk hd
          clear hd hcm2
          go_wp2_with fail
          refine (htx K3.out).mono ?_
          rintro e w' ⟨rfl, rfl⟩
          go_wp2_with fail
          refine (K3.out.waits).mono ?_
          rintro e w' ⟨rfl, rfl⟩
          simp only [Option.isSome_none]
          go_wp2_with fail
          go_roundw
          case rel => exact ⟨j + 1, D', k, q + 1, none, nt, by go_num, by rw [HTB.out.1], by rw [HTB.out.2], rfl, rfl, ⟨by have := HJ2.out; omega⟩, ⟨K3.out.pop⟩, HLI⟩
          case measure => have := HJ2.out; simp [intOf]; omega
      have hk2b : (kd == 2) = false := by rw [beq_eq_false_iff_ne]; exact hk2
      clear hk2
      have hwt := HS1.out.waits
      obtain ⟨V, hV⟩ : ∃ V, wk.isSome = V := ⟨_, rfl⟩
      rw [hV] at hwt ⊢
      have hVV : (V != V) = false := by simp
      have HV := Hd.mk hV
      clear hV
      go_wp2_with fail
      refine (htx HS1.out).mono ?_
      rintro e w' ⟨rfl, rfl⟩
      go_wp2_with fail
      refine hwt.mono ?_
      rintro e w' ⟨rfl, rfl⟩
      clear hwt
      go_wp2_with fail
      go_roundw
      case rel => exact ⟨j + 1, D, k, q, wk, nt, by go_num, by rw [HTB.out.1], by rw [HTB.out.2], rfl, by rw [HV.out], ⟨by have := HJ2.out; omega⟩, ⟨HS1.out.pop⟩, ⟨HL.out.skip⟩⟩
      case measure => have := HJ2.out; simp [intOf]; omega
    · have hex : ¬ (j : Int) < (n : Int) ∨ ((j : Int) < (n : Int) ∧ ¬ (j : Int) < 40) := by omega
      have hso := sopen_gd HL.out.qu HL.out.gd
      have hop : Calls Try.prog 41 #[.pointer (some ⟨b, 0, none⟩)] wr fun e w' => ∃ p', e = .returned (.tuple #[.pointer (some ⟨p', 0, none⟩), .int .i64 0]) ∧ SX w w' b p' D k false none [] ∧ Below wr.heap.size wr w' := HS.out.opens hso
      have htx3 : ∀ {w1 p'}, SX w w1 b p' D k false none [] → Calls Try.prog 45 #[.pointer (some ⟨p', 0, none⟩)] w1 fun e w' => e = .returned (.tuple #[.string ⟨T.toArray⟩, .bool B]) ∧ w1 = w' := fun {w1 p'} h => by
        have h2 := h.text
        rw [HTB.out.1, HTB.out.2] at h2
        exact h2
      have hTT2 : (T == T) = true := by simp
      have hBB2 : (B == B) = true := by simp
      clear hso hlt htx
      rcases hex with hex | ⟨hex1, hex2⟩
      all_goals
        go_wp2_with fail
        refine hop.mono ?_
        rintro e w3 ⟨p3, rfl, hd, -⟩
        have K3 := Hd.mk hd
        clear hd hop
        go_wp2_with fail
        refine (htx3 K3.out).mono ?_
        rintro e w' ⟨rfl, rfl⟩
        go_wp2_with fail
        refine (known7_c _).mono ?_
        rintro e w4 ⟨rfl, hb⟩
        have K4 := Hd.mk (K3.out.ext hb)
        clear hb K3
        go_wp2_with fail
        go_ret
        exact ⟨rfl, K4.out.bel⟩
end Go.Proofs.Ytkdakmddlkgjkaa
