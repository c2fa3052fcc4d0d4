import Derived.Outline
import Derived.Test.YtkdakmddlkgjkaaKn7
import Derived.Test.YtkdakmddlkgjkaaGd
open Go.RowKit Go.Lib
namespace Go.Proofs.Ytkdakmddlkgjkaa
set_option maxRecDepth 100000
open Sha
/-! StoreFull's walk. -/
/-- what a text makes of a new disk of 16 blocks -/
theorem full_plain (a : List UInt8) (ha : a.length ≤ 256) (z : List UInt8) (hz : 256 < z.length) : ∃ (D1 D2 : Ds) (k : Kp), sprep (Ds0 16) K0 a = (0, D1, some k) ∧ (∃ e, app D1 (k.ent 2) = (0, e, D2)) ∧ txt k = a ∧ has k = true ∧ k.tx = a ∧ sprep D2 k z = (6, D2, none) ∧ sopen D2 = (some (k, false), 0) ∧
    D1.ops ≤ 302 ∧ D1.gh ≤ 301 ∧ D2.ops ≤ 304 ∧ D2.gh ≤ 302 := by
  obtain ⟨g0, q0⟩ := gd_new 16 (by decide)
  have hok := ds0_ok 16 (by decide) (by decide)
  have hb : bks (Ds0 16) = 4 := by decide
  have hz0 : (Ds0 16).ops = 0 ∧ (Ds0 16).gh = 0 := ⟨rfl, rfl⟩
  rcases g0.prep q0 hok (by decide) a (by rw [hb]; exact ha) with ⟨h1, h2, h3, h4, h5, h6, h7⟩ | ⟨h0, _⟩
  · have hop := sprep_ops hok K0 a
    obtain ⟨⟨c, D1, wt⟩, hs⟩ : ∃ r, sprep (Ds0 16) K0 a = r := ⟨_, rfl⟩
    rw [hs] at h1 h2 h3 h4 h5 h6 h7 hop
    simp only at h1 h2 h3 h4 h5 h6 h7 hop
    subst h1 h4
    have hL : D1.L.length = 16 := h6
    rcases h3.put h2 (by decide) h5 (by rw [hL]; decide) 2 (by decide) with ⟨a1, a2, a3, _, a5, _⟩ | ⟨a0, _⟩
    · have hop2 := app_ops D1 ((⟨oth K0, a, sha a⟩ : Kp).ent 2)
      obtain ⟨⟨c, e, D2⟩, hs2⟩ : ∃ r, app D1 ((⟨oth K0, a, sha a⟩ : Kp).ent 2) = r := ⟨_, rfl⟩
      rw [hs2] at a1 a2 a3 a5 hop2
      simp only at a1 a2 a3 a5 hop2
      subst a1
      refine ⟨D1, D2, ⟨oth K0, a, sha a⟩, hs, ⟨e, hs2⟩, rfl, rfl, rfl, ?_, sopen_gd a2 a3, by omega, by omega, by omega, by omega⟩
      have hb2 : bks D2 = 4 := by unfold bks; rw [a5, hL]
      unfold sprep
      have hw : ∀ o, swrite D2 o z = (6, D2) := fun o => by unfold swrite; rw [if_pos (by rw [hb2]; omega)]
      rw [hw, if_pos (by simp)]
    · rw [h7 rfl] at a0; cases a0
  · cases h0
set_option maxHeartbeats 2000000 in
theorem full_c (s : ByteArray) (m : Int) (hm : 0 ≤ m ∧ m ≤ 255) (w : World) : Calls Try.prog 9 #[.string s, .int .u8 m] w fun e w' => e = .returned (.bool true) ∧ Below w.heap.size w w' := by
  obtain ⟨l, hs⟩ : ∃ l : List UInt8, s = ⟨l.toArray⟩ := ⟨s.data.toList, rfl⟩
  subst hs
  have hnew := new_dk 16 (by decide) (by decide) w
  have hopen0 : ∀ {w1 b}, DK w w1 b (Ds0 16) → Calls Try.prog 41 #[.pointer (some ⟨b, 0, none⟩)] w1 fun e w' => ∃ p, e = .returned (.tuple #[.pointer (some ⟨p, 0, none⟩), .int .i64 0]) ∧ SD w w' b p (Ds0 16) K0 false none ∧ Below w1.heap.size w1 w' ∧ w1.heap.size ≤ p ∧ StAt w' p b K0 false none := fun {w1 b} h => h.opens kn_0
  by_cases h1 : 256 < l.length
  · have h1' : (256 : Int) < (l.length : Int) := by omega
    obtain ⟨D0, hD0⟩ : ∃ D, Ds0 16 = D := ⟨_, rfl⟩
    rw [hD0] at hnew hopen0
    clear h1 hD0 hm
    go_enter Try.func9, Try.ntmps9
    go_wp2_with fail
    refine hnew.mono ?_
    rintro e w1 ⟨b, rfl, hd⟩
    have K1 := Hd.mk hd
    clear hd hnew
    go_wp2_with fail
    refine (hopen0 K1.out).mono ?_
    rintro e w2 ⟨p, rfl, hd, -, -, -⟩
    have K2 := Hd.mk hd
    clear hd K1 hopen0
    go_wp2_with fail
    refine (known7_c _).mono ?_
    rintro e w3 ⟨rfl, hb⟩
    have K3 := Hd.mk (K2.out.ext hb)
    clear hb K2
    go_wp2_with fail
    go_ret
    exact ⟨rfl, K3.out.bel⟩
  · have h1' : ¬ (256 : Int) < (l.length : Int) := by omega
    obtain ⟨n, hn⟩ : ∃ n : Nat, 257 + m = (n : Int) := ⟨(257 + m).toNat, by omega⟩
    have hn1 : 257 ≤ n ∧ n ≤ 512 := by omega
    obtain ⟨z, hzr⟩ : ∃ z, List.replicate n (0 : UInt8) = z := ⟨_, rfl⟩
    have hzl : z.length = n := by rw [← hzr, List.length_replicate]
    obtain ⟨D1, D2, k, e1, ⟨en, e2⟩, e3, e4, e5, e6, e7, o1, o2, o3, o4⟩ := full_plain l (by omega) z (by omega)
    have hll : l.length < 1000000 := by omega
    have hprep1 : ∀ {w1 b p}, SD w w1 b p (Ds0 16) K0 false none → Calls Try.prog 43 #[.pointer (some ⟨p, 0, none⟩), .string ⟨l.toArray⟩] w1 fun e w' => e = .returned (.int .i64 0) ∧ SD w w' b p D1 K0 false (some k) := fun {w1 b p} h => by
      have h2 := h.prep (by decide) (by decide) (by decide) l hll
      rw [e1] at h2
      exact h2
    have hcom : ∀ {w1 b p}, SD w w1 b p D1 K0 false (some k) → Calls Try.prog 44 #[.pointer (some ⟨p, 0, none⟩)] w1 fun e w' => e = .returned (.int .i64 0) ∧ SD w w' b p D2 k false none := fun {w1 b p} h => by
      have h2 := h.commit (by omega) (by omega) (by rw [e5]; exact hll)
      rw [e2] at h2
      exact h2
    have hprep2 : ∀ {w1 b p}, SD w w1 b p D2 k false none → Calls Try.prog 43 #[.pointer (some ⟨p, 0, none⟩), .string ⟨z.toArray⟩] w1 fun e w' => e = .returned (.int .i64 6) ∧ SD w w' b p D2 k false none := fun {w1 b p} h => by
      have h2 := h.prep (by omega) (by omega) (by rw [e5]; exact hll) z (by omega)
      rw [e6] at h2
      exact h2
    have htext : ∀ {w1 b p}, SD w w1 b p D2 k false none → Calls Try.prog 45 #[.pointer (some ⟨p, 0, none⟩)] w1 fun e w' => e = .returned (.tuple #[.string ⟨l.toArray⟩, .bool true]) ∧ w1 = w' := fun {w1 b p} h => by
      have h2 := h.text
      rw [e3, e4] at h2
      exact h2
    have hopen2 : ∀ {w1 b}, DK w w1 b D2 → Calls Try.prog 41 #[.pointer (some ⟨b, 0, none⟩)] w1 fun e w' => ∃ p, e = .returned (.tuple #[.pointer (some ⟨p, 0, none⟩), .int .i64 0]) ∧ SD w w' b p D2 k false none ∧ Below w1.heap.size w1 w' ∧ w1.heap.size ≤ p ∧ StAt w' p b k false none := fun {w1 b} h => h.opens e7
    have hw0 : IntKind.i64.wrap m = m := IntWalk.i64_in _ (by omega)
    have hw1 : IntKind.i64.wrap (257 + m) = (n : Int) := by rw [hn]; exact IntWalk.i64_in _ (by omega)
    have HZR := Hd.mk hzr
    have HN := Hd.mk hn1
    obtain ⟨D0, hD0⟩ : ∃ D, Ds0 16 = D := ⟨_, rfl⟩
    rw [hD0] at hnew hopen0 hprep1
    have hll2 : (l == l) = true := by simp
    clear h1 hD0 hm hn hn1 hzr hzl e1 e2 e3 e4 e5 e6 e7 o1 o2 o3 o4 hll
    go_enter Try.func9, Try.ntmps9
    go_wp2_with fail
    refine hnew.mono ?_
    rintro e w1 ⟨b, rfl, hd⟩
    have K1 := Hd.mk hd
    clear hd hnew
    go_wp2_with fail
    refine (hopen0 K1.out).mono ?_
    rintro e w2 ⟨p, rfl, hd, -, -, -⟩
    have K2 := Hd.mk hd
    clear hd K1 hopen0
    go_wp2_with fail
    refine (hprep1 K2.out).mono ?_
    rintro e w3 ⟨rfl, hd⟩
    have K3 := Hd.mk hd
    clear hd K2 hprep1
    go_wp2_with fail
    refine (hcom K3.out).mono ?_
    rintro e w4 ⟨rfl, hd⟩
    have K4 := Hd.mk hd
    clear hd K3 hcom
    go_wp2_with (at_make; refine wpList_plain rfl fun K hK => ?_; refine W_makeB n _ _ ⟨⟨_, rfl⟩, ⟨_, rfl⟩, by have := HN.out; omega⟩ ?_; intro w5 h1 h2; refine hK _ _ ?_; rw [HZR.out] at h1; have HO5 := Hd.mk h1; have K5 := Hd.mk (K4.out.ext ((Below.refl _ _).grown h2 (Nat.le_refl _) (by simp))); have hst := run_strof 38 h1 Try.underlying38 9 Try.underlying9; clear h1 h2 hK)
    refine (hprep2 K5.out).mono ?_
    rintro e w6 ⟨rfl, hd⟩
    have K6 := Hd.mk hd
    clear hd K4 K5 HO5 hst hprep2
    go_wp2_with fail
    refine (htext K6.out).mono ?_
    rintro e w' ⟨rfl, rfl⟩
    go_wp2_with fail
    refine (hopen2 K6.out.dk).mono ?_
    rintro e w7 ⟨p2, rfl, hd, hb, -, -⟩
    have K7 := Hd.mk hd
    have K6b := Hd.mk (K6.out.ext hb)
    clear hd hb K6 hopen2
    go_wp2_with fail
    refine (htext K7.out).mono ?_
    rintro e w' ⟨rfl, rfl⟩
    go_wp2_with fail
    refine (K6b.out.waits).mono ?_
    rintro e w' ⟨rfl, rfl⟩
    go_wp2_with fail
    refine (K6b.out.commit_no).mono ?_
    rintro e w8 ⟨rfl, hd⟩
    have K8 := Hd.mk hd
    clear hd K6b K7
    go_wp2_with fail
    refine (known7_c _).mono ?_
    rintro e w9 ⟨rfl, hb⟩
    have K9 := Hd.mk (K8.out.ext hb)
    clear hb K8
    go_wp2_with fail
    go_ret
    exact ⟨rfl, K9.out.bel⟩
end Go.Proofs.Ytkdakmddlkgjkaa
