import Derived.Outline
import Derived.Test.YtkdakmddlkgjkaaSd
open Go.RowKit Go.Lib
namespace Go.Proofs.Ytkdakmddlkgjkaa
set_option maxRecDepth 100000
open Sha
/-! What must come of law07's fixed calls. -/
def kA : Kp := ⟨0, [97], sha [97]⟩
def kB : Kp := ⟨1, [98], sha [98]⟩
def kD1 : Ds := (sprep (Ds0 16) K0 [97]).2.1
def kD2 : Ds := (app kD1 (kA.ent 2)).2.2
def kD3 : Ds := (sprep kD2 kA [98]).2.1
def kD4 : Ds := (kD3.fail 0).start
theorem kn_0 : sopen (Ds0 16) = (some (K0, false), 0) := by decide +kernel
theorem kn_1 : (sprep (Ds0 16) K0 [97]).1 = 0 ∧ (sprep (Ds0 16) K0 [97]).2.2 = some kA := by decide +kernel
theorem kn_2 : (app kD1 (kA.ent 2)).1 = 0 := by decide +kernel
theorem kn_3 : (sprep kD2 kA [98]).1 = 0 ∧ (sprep kD2 kA [98]).2.2 = some kB := by decide +kernel
theorem kn_4 : sopen kD4 = (some (kA, false), 0) := by decide +kernel
theorem kn_b : kD1.ops + 2 < 1000000000 ∧ kD1.gh + 1 < 1000000000 ∧ kD2.ops + 400 < 1000000000 ∧ kD2.gh + 400 < 1000000000 := by decide +kernel
end Go.Proofs.Ytkdakmddlkgjkaa
open Go.RowKit Go.Lib
namespace Go.Proofs.Ytkdakmddlkgjkaa
set_option maxRecDepth 100000
open Sha
set_option maxHeartbeats 2000000 in
theorem known7_c (w : World) : Calls Try.prog 42 #[] w fun e w' => e = .returned (.bool true) ∧ Below w.heap.size w w' := by
  have hb := kn_b
  have hopen0 : ∀ {w1 b}, DK w w1 b (Ds0 16) → Calls Try.prog 41 #[.pointer (some ⟨b, 0, none⟩)] w1 fun e w' => ∃ p, e = .returned (.tuple #[.pointer (some ⟨p, 0, none⟩), .int .i64 0]) ∧ SD w w' b p (Ds0 16) K0 false none ∧ Below w1.heap.size w1 w' ∧ w1.heap.size ≤ p ∧ StAt w' p b K0 false none := fun {w1 b} h => h.opens kn_0
  have hprep1 : ∀ {w1 b p}, SD w w1 b p (Ds0 16) K0 false none → Calls Try.prog 43 #[.pointer (some ⟨p, 0, none⟩), .string ⟨#[97]⟩] w1 fun e w' => e = .returned (.int .i64 0) ∧ SD w w' b p kD1 K0 false (some kA) := fun {w1 b p} h => by
    have h2 := h.prep (by decide) (by decide) (by decide) [97] (by decide)
    rw [kn_1.1, kn_1.2] at h2
    exact h2
  have hcom : ∀ {w1 b p}, SD w w1 b p kD1 K0 false (some kA) → Calls Try.prog 44 #[.pointer (some ⟨p, 0, none⟩)] w1 fun e w' => e = .returned (.int .i64 0) ∧ SD w w' b p kD2 kA false none := fun {w1 b p} h => by
    have h2 := h.commit hb.1 hb.2.1 (by decide)
    rw [kn_2, if_pos rfl, if_pos rfl] at h2
    exact h2
  have hprep2 : ∀ {w1 b p}, SD w w1 b p kD2 kA false none → Calls Try.prog 43 #[.pointer (some ⟨p, 0, none⟩), .string ⟨#[98]⟩] w1 fun e w' => e = .returned (.int .i64 0) ∧ SD w w' b p kD3 kA false (some kB) := fun {w1 b p} h => by
    have h2 := h.prep hb.2.2.1 hb.2.2.2 (by decide) [98] (by decide)
    rw [kn_3.1, kn_3.2] at h2
    exact h2
  have hfail : ∀ {w1 b p}, SD w w1 b p kD3 kA false (some kB) → Calls Try.prog 34 #[.pointer (some ⟨b, 0, none⟩), .int .u64 0] w1 fun e w' => e = .returned (.tuple #[]) ∧ SD w w' b p (kD3.fail 0) kA false (some kB) := fun {w1 b p} h => h.fail 0
  have hopen4 : ∀ {w1 b}, DK w w1 b kD4 → Calls Try.prog 41 #[.pointer (some ⟨b, 0, none⟩)] w1 fun e w' => ∃ p, e = .returned (.tuple #[.pointer (some ⟨p, 0, none⟩), .int .i64 0]) ∧ SD w w' b p kD4 kA false none ∧ Below w1.heap.size w1 w' ∧ w1.heap.size ≤ p ∧ StAt w' p b kA false none := fun {w1 b} h => h.opens kn_4
  have htx0 : txt K0 = [] ∧ has K0 = false := ⟨rfl, rfl⟩
  have htxA : txt kA = [97] ∧ has kA = true := ⟨rfl, rfl⟩
  have htext0 : ∀ {w1 b p D}, SD w w1 b p D K0 false none → Calls Try.prog 45 #[.pointer (some ⟨p, 0, none⟩)] w1 fun e w' => e = .returned (.tuple #[.string ⟨#[]⟩, .bool false]) ∧ w1 = w' := fun {w1 b p D} h => h.text
  have htextA : ∀ {w1 b p D}, SD w w1 b p D kA false none → Calls Try.prog 45 #[.pointer (some ⟨p, 0, none⟩)] w1 fun e w' => e = .returned (.tuple #[.string ⟨#[97]⟩, .bool true]) ∧ w1 = w' := fun {w1 b p D} h => h.text
  obtain ⟨D0, hD0⟩ : ∃ D, Ds0 16 = D := ⟨_, rfl⟩
  obtain ⟨D1, hD1⟩ : ∃ D, kD1 = D := ⟨_, rfl⟩
  obtain ⟨D2, hD2⟩ : ∃ D, kD2 = D := ⟨_, rfl⟩
  obtain ⟨D3, hD3⟩ : ∃ D, kD3 = D := ⟨_, rfl⟩
  obtain ⟨D3f, hD3f⟩ : ∃ D, kD3.fail 0 = D := ⟨_, rfl⟩
  obtain ⟨D4, hD4⟩ : ∃ D, kD4 = D := ⟨_, rfl⟩
  have hst : ∀ {w1 b p}, SD w w1 b p D3f kA false (some kB) → Calls Try.prog 36 #[.pointer (some ⟨b, 0, none⟩)] w1 fun e w' => e = .returned (.tuple #[]) ∧ SD w w' b p D4 kA false (some kB) := fun {w1 b p} h => by
    rw [← hD4]; unfold kD4; rw [hD3f]; exact h.start
  have hnew := new_dk 16 (by decide) (by decide) w
  rw [hD0] at hnew hopen0 hprep1
  rw [hD1] at hprep1 hcom
  rw [hD2] at hcom hprep2
  rw [hD3f, hD3] at hfail
  rw [hD3] at hprep2
  rw [hD4] at hopen4
  clear hD0 hD1 hD2 hD3 hD3f hD4 hb
  go_enter Try.func42, Try.ntmps42
  go_wp2_with fail
  refine hnew.mono ?_
  rintro e w1 ⟨b, rfl, hd⟩
  have K1 := Hd.mk hd
  clear hd
  go_wp2_with fail
  refine (hopen0 K1.out).mono ?_
  rintro e w2 ⟨p, rfl, hd, -, -, -⟩
  have K2 := Hd.mk hd
  clear hd K1
  go_wp2_with fail
  refine (htext0 K2.out).mono ?_
  rintro e w' ⟨rfl, rfl⟩
  go_wp2_with fail
  refine (hprep1 K2.out).mono ?_
  rintro e w3 ⟨rfl, hd⟩
  have K3 := Hd.mk hd
  clear hd K2
  go_wp2_with fail
  refine (K3.out.waits).mono ?_
  rintro e w' ⟨rfl, rfl⟩
  go_wp2_with fail
  refine (hcom K3.out).mono ?_
  rintro e w4 ⟨rfl, hd⟩
  have K4 := Hd.mk hd
  clear hd K3
  go_wp2_with fail
  refine (hprep2 K4.out).mono ?_
  rintro e w5 ⟨rfl, hd⟩
  have K5 := Hd.mk hd
  clear hd K4
  go_wp2_with fail
  refine (hfail K5.out).mono ?_
  rintro e w6 ⟨rfl, hd⟩
  have K6 := Hd.mk hd
  clear hd K5
  go_wp2_with fail
  refine (hst K6.out).mono ?_
  rintro e w7 ⟨rfl, hd⟩
  have K7 := Hd.mk hd
  clear hd K6
  go_wp2_with fail
  refine (hopen4 K7.out.dk).mono ?_
  rintro e w8 ⟨p2, rfl, hd, -, -, -⟩
  have K8 := Hd.mk hd
  clear hd K7
  go_wp2_with fail
  refine (htextA K8.out).mono ?_
  rintro e w' ⟨rfl, rfl⟩
  go_wp2_with fail
  refine (K8.out.commit_no).mono ?_
  rintro e w9 ⟨rfl, hd⟩
  have K9 := Hd.mk hd
  clear hd K8
  go_wp2_with fail
  refine (K9.out.isodd).mono ?_
  rintro e w' ⟨rfl, rfl⟩
  go_wp2_with fail
  go_ret
  exact ⟨rfl, K9.out.bel⟩
end Go.Proofs.Ytkdakmddlkgjkaa
