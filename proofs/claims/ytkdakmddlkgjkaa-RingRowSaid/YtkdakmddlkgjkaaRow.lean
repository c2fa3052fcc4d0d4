import Derived.Outline
import Derived.Deep.DeepCutAuto
import Derived.Deep.RegionHeld3
import Derived.Test.YtkdakmddlkgjkaaKn5b
import Derived.Test.YtkdakmddlkgjkaaRowP
open Go.RowKit Go.Lib
namespace Go.Proofs.Ytkdakmddlkgjkaa
set_option maxRecDepth 100000
theorem row_app {w : World} {b : Nat} {D : Ds} {F : Nat → Prop} {c : UInt8} {j : Nat} (h : IsDisk w b D F) (hs : RowSt c D j) (hj : j < 40) :
    Calls Try.prog 23 #[.pointer (some ⟨b, 0, none⟩), .agg #[.int .i64 (1 + (j : Int) % 3), .int .i64 0, .int .i64 ((j : Int) % 3), .int .i64 (j : Int), .string ⟨(List.replicate 32 c).toArray⟩]] w fun r w' =>
      r = .returned (.tuple #[.agg #[.int .i64 (1 + (j : Int) % 3), .int .i64 ((j : Int) + 1), .int .i64 ((j : Int) % 3), .int .i64 (j : Int), .string ⟨(List.replicate 32 c).toArray⟩], .int .i64 0]) ∧
      ∃ D' F', IsDisk w' b D' F' ∧ RowSt c D' (j + 1) ∧ Upd F w w' ∧ ∀ k, F' k → F k ∨ w.heap.size ≤ k := by
  obtain ⟨D', h1, h2⟩ := hs.step hj
  have hops := hs.ops
  have hgh := hs.gh
  have h3 := append_c h (by omega) (by omega) ⟨1 + ((j % 3 : Nat) : Int), 0, ((j % 3 : Nat) : Int), (j : Int), List.replicate 32 c⟩
  rw [h1] at h3
  have e1 : ((j % 3 : Nat) : Int) = (j : Int) % 3 := by omega
  have e2 : ev (entR c (j + 1)) = .agg #[.int .i64 (1 + (j : Int) % 3), .int .i64 ((j : Int) + 1), .int .i64 ((j : Int) % 3), .int .i64 (j : Int), .string ⟨(List.replicate 32 c).toArray⟩] := by
    simp [ev, entR]
  have e3 : ev ⟨1 + ((j % 3 : Nat) : Int), 0, ((j % 3 : Nat) : Int), (j : Int), List.replicate 32 c⟩ = .agg #[.int .i64 (1 + (j : Int) % 3), .int .i64 0, .int .i64 ((j : Int) % 3), .int .i64 (j : Int), .string ⟨(List.replicate 32 c).toArray⟩] := by
    simp [ev]
  rw [e3] at h3
  refine h3.mono ?_
  rintro r w' ⟨hr, F', g1, g2, g3⟩
  exact ⟨by rw [hr, e2]; rfl, D', F', g1, h2, g2, g3⟩
set_option maxHeartbeats 4000000 in
theorem row_c (n : Int) (c : UInt8) (hn : 0 ≤ n ∧ n ≤ 255) (w : World) : Calls Try.prog 6 #[.int .u8 n, .int .u8 (bn c)] w fun e w' => e = .returned (.bool true) ∧ Below w.heap.size w w' := by
  obtain ⟨k, hk⟩ : ∃ k : Nat, n % 40 = (k : Int) := ⟨(n % 40).toNat, by omega⟩
  have hk40 : k < 40 := by omega
  have hsum := sum_5 c
  obtain ⟨S, hS⟩ : ∃ S, List.replicate 32 c = S := ⟨_, rfl⟩
  rw [hS] at hsum
  have hap := @row_app
  have HS := Hd.mk hS
  have hn0 := hn.1
  have hn1 := hn.2
  have HAP : Hd (∀ {w : World} {b : Nat} {D : Ds} {F : Nat → Prop} {j : Nat}, IsDisk w b D F → RowSt c D j → j < 40 → Calls Try.prog 23 #[.pointer (some ⟨b, 0, none⟩), .agg #[.int .i64 (1 + (j : Int) % 3), .int .i64 0, .int .i64 ((j : Int) % 3), .int .i64 (j : Int), .string ⟨S.toArray⟩]] w fun r w' =>
      r = .returned (.tuple #[.agg #[.int .i64 (1 + (j : Int) % 3), .int .i64 ((j : Int) + 1), .int .i64 ((j : Int) % 3), .int .i64 (j : Int), .string ⟨S.toArray⟩], .int .i64 0]) ∧
      ∃ D' F', IsDisk w' b D' F' ∧ RowSt c D' (j + 1) ∧ Upd F w w' ∧ ∀ k, F' k → F k ∨ w.heap.size ≤ k) := ⟨by rw [← hS]; exact fun h1 h2 h3 => row_app h1 h2 h3⟩
  have HK := Hd.mk hk
  clear hap hS hn
  go_enter Try.func6, Try.ntmps6
  go_wp2_with fail
  refine (new_d 16 (by decide) (by decide) w).mono ?_
  rintro e w1 ⟨b, F1, rfl, hd, hb, hF⟩
  have B1 := Hd.mk hb
  have K1 := Hd.mk hd
  have L1 := Hd.mk hF
  clear hb hd hF
  go_wp2_with fail
  rw [HK.out]
  go_loopw [8] (fun i wr => ∃ j : Nat, i = .int .i64 (j : Int) ∧ j ≤ k ∧ Hd (∃ D F, IsDisk wr b D F ∧ RowSt c D j ∧ ∀ x, F x → w.heap.size ≤ x) ∧ Hd (Below w.heap.size w wr)) (fun i _ => k - (intOf i).toNat)
  case atStart => exact ⟨0, rfl, Nat.zero_le _, ⟨_, F1, K1.out, row_zero c, L1.out⟩, B1⟩
  case round =>
    clear K1 L1 B1
    obtain ⟨j, rfl, hj, HD, HB⟩ := hrel
    by_cases hlt : j < k
    · have ho1 : (0 : Int) ≤ (j : Int) := by omega
      go_wp2_with fail
      refine (hsum _).mono ?_
      rintro e w2 ⟨rfl, hb⟩
      obtain ⟨D, F, hd, hst, hF⟩ := HD.out
      have hd2 := hd.ext hb
      have B2 : Hd (Below w.heap.size w w2) := ⟨HB.out.trans (hb.mono HB.out.size)⟩
      have HF := Hd.mk hF
      clear hb hd hF HD HB
      have h2 := HAP.out hd2 hst (by omega)
      clear hd2 hst
      go_wp2_with fail
      refine h2.mono ?_
      clear h2
      rintro e w3 ⟨rfl, D3, F3, hd3, hst3, hu3, hf3⟩
      have hB3 := B2.out.trans (hu3.below B2.out.size HF.out)
      have HD3 : Hd (∀ o, ∃ D F, IsDisk (w3.alloc o) b D F ∧ RowSt c D (j + 1) ∧ ∀ x, F x → w.heap.size ≤ x) :=
        ⟨fun o => ⟨D3, F3, hd3.ext ((Below.refl _ _).alloc (Nat.le_refl _) _), hst3, fun x hx => (hf3 x hx).elim (HF.out x) (fun h => by have := B2.out.size; omega)⟩⟩
      have B3 : Hd (∀ o, Below w.heap.size w (w3.alloc o)) := ⟨fun o => hB3.alloc hB3.size _⟩
      clear hd3 hst3 hu3 hf3 hB3
      go_wp2_with fail
      go_roundw
      case rel => exact ⟨j + 1, by go_num, hlt, ⟨HD3.out _⟩, ⟨B3.out _⟩⟩
      case measure => simp [intOf]; omega
    · have hjk : j = k := by omega
      have HD3 : Hd (∃ D F, IsDisk wr b D F ∧ RowSt c D k) := ⟨by obtain ⟨D, F, h1, h2, h3⟩ := HD.out; exact ⟨D, F, h1, hjk ▸ h2⟩⟩
      clear HD hjk
      go_wp2_with fail
      obtain ⟨D, F, hd, hst⟩ := HD3.out
      have hsc := scan_c hd hst.off
      rw [hst.scan (by omega)] at hsc
      obtain ⟨L, hL⟩ : ∃ L, (rowN k).map (entR c) = L := ⟨_, rfl⟩
      rw [hL] at hsc
      have hLl : L.length = min k 8 := by rw [← hL]; simp [rowN]
      have hat : ∀ (j : Nat) (hj : j < L.length), ∃ a : Nat, 1 ≤ a ∧ (a : Int) = (k : Int) - (L.length : Int) + 1 + (j : Int) ∧ L[j] = entR c a := by
        intro j hj
        refine ⟨k - min k 8 + 1 + j, by omega, by omega, ?_⟩
        subst hL
        simp [rowN]
      have HL := Hd.mk hLl
      have HAT := Hd.mk hat
      clear hd hst hL hLl hat HD3
      refine hsc.mono ?_
      rintro e w4 ⟨v, rfl, hown, hb⟩
      have B4 : Hd (Below w.heap.size w w4) := ⟨HB.out.trans (hb.mono HB.out.size)⟩
      obtain ⟨oa, oc, hv, _, hnone, hsome⟩ := hown.form
      subst hv
      have O4 : Hd (OwnE w4 w.heap.size (.slice oa L.length oc) L) := ⟨hown.mono HB.out.size⟩
      have HNN := Hd.mk hnone
      have HSM := Hd.mk hsome
      have hm1 : ((L.length : Int) != if (8 : Int) < (k : Int) then 8 else (k : Int)) = false := by
        rw [bne_eq_false_iff_eq, HL.out]; split <;> omega
      clear hsc hown hb hnone hsome HB HAP
      go_wp2_with fail
      all_goals
        go_loopw [13] (fun i wx => ∃ j : Nat, i = .int .i64 (j : Int) ∧ j ≤ L.length ∧ Hd (OwnE wx w.heap.size (.slice oa L.length oc) L) ∧ Hd (Below w.heap.size w wx)) (fun i _ => L.length - (intOf i).toNat)
        case atStart => exact ⟨0, rfl, Nat.zero_le _, O4, B4⟩
        case round =>
          clear O4 B4
          obtain ⟨wq, hwq⟩ : ∃ x, x = wr := ⟨_, rfl⟩
          obtain ⟨i, rfl, hi, HO, HB⟩ := hrel
          by_cases hil : i < L.length
          · obtain ⟨a, ha1, ha2, ha3⟩ := HAT.out i hil
            have hL8 : L.length ≤ 8 ∧ L.length ≤ k := by have := HL.out; omega
            obtain ⟨hL8, hLk⟩ := hL8
            obtain ⟨og, hog⟩ : ∃ og, oa = some ⟨og, 0, none⟩ := by
              cases oa with
              | none => have := (HNN.out rfl).1; omega
              | some x => obtain ⟨q, hq, _⟩ := HSM.out x rfl; exact ⟨q, by rw [hq]⟩
            subst hog
            have q := HO.out.cells i hil
            simp only [ha3] at q
            have q1 := q 1 (by decide)
            have q3 := q 3 (by decide)
            have q4 := q 4 (by decide)
            simp only [ecell, entR, List.getElem?_cons_zero, List.getElem?_cons_succ] at q1 q3 q4
            obtain ⟨z, hz⟩ : ∃ z : Nat, a - 1 = z := ⟨_, rfl⟩
            rw [hz] at q3
            rw [HS.out] at q4
            have hogl := (HO.out.lt og rfl).2
            have t1 : ((a : Int) != (k : Int) - (L.length : Int) + 1 + (i : Int)) = false := by rw [bne_eq_false_iff_eq]; exact ha2
            have t2 : ((z : Int) != (a : Int) - 1) = false := by rw [bne_eq_false_iff_eq]; omega
            have t3 : (S != S) = false := by simp
            have t4 : (S == S) = true := by simp
            have u1 : (0 : Int) ≤ (i : Int) := by omega
            have u2 : (i : Int) < (L.length : Int) := by omega
            have u3 : IntKind.i64.wrap ((k : Int) - (L.length : Int)) = (k : Int) - (L.length : Int) := IntWalk.i64_in _ (by omega)
            have u4 : IntKind.i64.wrap ((k : Int) - (L.length : Int) + 1) = (k : Int) - (L.length : Int) + 1 := IntWalk.i64_in _ (by omega)
            have u5 : IntKind.i64.wrap ((k : Int) - (L.length : Int) + 1 + (i : Int)) = (k : Int) - (L.length : Int) + 1 + (i : Int) := IntWalk.i64_in _ (by omega)
            have u6 : IntKind.i64.wrap ((a : Int) - 1) = (a : Int) - 1 := IntWalk.i64_in _ (by omega)
            clear q ha3 hz ha2
            go_upto_region 17 with fail
            go_cut [117] (fun v wx => v = .bool false ∧ Hd (OwnE wx w.heap.size (.slice (some ⟨og, 0, none⟩) L.length oc) L) ∧ Hd (Below w.heap.size w wx))
            case first =>
              go_region_held3 (fun w' => w'.cell? ⟨og, i * 5 + 1, none⟩ = some (.int .i64 (a : Int)) ∧ w'.cell? ⟨og, i * 5 + 3, none⟩ = some (.int .i64 (z : Int)) ∧ w'.cell? ⟨og, i * 5 + 4, none⟩ = some (.string ⟨S.toArray⟩))
                (first | exact ⟨q1, q3, q4⟩ | exact ⟨p1, p3, p4⟩)
                (first | (go_at_call 25; refine (hsum _).mono ?_; rintro e w5 ⟨rfl, hb⟩; have p1 := (hb.cell (p := ⟨og, i * 5 + 1, none⟩) hogl).trans q1; have p3 := (hb.cell (p := ⟨og, i * 5 + 3, none⟩) hogl).trans q3; have p4 := (hb.cell (p := ⟨og, i * 5 + 4, none⟩) hogl).trans q4))
              all_goals
                have B5 : Hd (Below w.heap.size w w5) := ⟨HB.out.drew.trans (hb.mono HB.out.size)⟩
                have O5 : Hd (OwnE w5 w.heap.size (.slice (some ⟨og, 0, none⟩) L.length oc) L) := ⟨OwnE.below (w := wr.drew) HO.out hb⟩
                clear hb p1 p3 p4 q1 q3 q4
                go_wp2_with fail
                go_meet
                case rel => exact ⟨rfl, O5, B5⟩
            case rest =>
              obtain ⟨rfl, O5, B5⟩ := hcut
              clear q1 q3 q4 HO HB
              go_wp2_with fail
              go_roundw
              case rel => exact ⟨i + 1, by go_num, hil, O5, B5⟩
              case measure => simp [intOf]; omega
          · have hil2 : ¬ (i : Int) < (L.length : Int) := by omega
            go_wp2_with fail
            refine (known5_c _).mono ?_
            rintro e w9 ⟨rfl, hb⟩
            have B9 : Hd (Below w.heap.size w w9) := ⟨HB.out.trans (hb.mono HB.out.size)⟩
            clear hb
            go_wp2_with fail
            go_ret
            exact ⟨rfl, B9.out⟩
end Go.Proofs.Ytkdakmddlkgjkaa
