import Derived.Outline
import Derived.WalkMore
import Derived.Test.YtkdakmddlkgjkaaSw
open Go.RowKit Go.Lib
namespace Go.Proofs.Ytkdakmddlkgjkaa
set_option maxRecDepth 100000
/-! slots.Read. -/
theorem OwnB.pre {w : World} {base : Nat} {a : Option Addr} {n c : Nat} {l : List UInt8} (h : OwnB w base (.slice a n c) l) (k : Nat) (hk : k ≤ l.length) : OwnB w base (.slice a k c) (l.take k) := by
  have hl : (l.take k).length = k := by rw [List.length_take]; omega
  rcases h.2 with ⟨he, h0⟩ | ⟨g', cap, cur, fr, he, hb', hg, hf, hnc, hcm, hcs, htk⟩
  · cases he
    have e : l = [] := List.eq_nil_of_length_eq_zero h0
    subst e
    have hk0 : k = 0 := by simpa using hk
    subst hk0
    exact h
  · simp only [Value.slice.injEq] at he
    obtain ⟨rfl, rfl, rfl⟩ := he
    refine ⟨by simp, .inr ⟨g', c, cur, fr, by rw [hl], hb', hg, hf, by rw [hl]; omega, hcm, hcs, ?_⟩⟩
    rw [hl, Nat.mul_one, List.map_take, ← htk, Nat.mul_one, List.take_take]
    congr 1
    omega
theorem OwnB.cap {w : World} {base : Nat} {a : Option Addr} {n c : Nat} {l : List UInt8} (h : OwnB w base (.slice a n c) l) : n = l.length ∧ n ≤ c := by
  rcases h.2 with ⟨he, h0⟩ | ⟨g', cap, cur, fr, he, hb', hg, hf, hnc, hcm, hcs, htk⟩
  · cases he; exact ⟨h0.symm, Nat.le_refl _⟩
  · simp only [Value.slice.injEq] at he
    obtain ⟨rfl, rfl, rfl⟩ := he
    exact ⟨rfl, hnc⟩
set_option maxHeartbeats 2000000 in
theorem sread_c {w : World} {b : Nat} {D : Ds} {F : Nat → Prop} (h : IsDisk w b D F) (slot size : Int) :
    Calls Try.prog 87 #[.pointer (some ⟨b, 0, none⟩), .int .i64 slot, .int .i64 size] w fun e w' => e = .returned (.tuple #[.string ⟨(sread D slot size).1.toArray⟩, .int .i64 ((sread D slot size).2 : Nat)]) ∧ Below w.heap.size w w' := by
  have HD := Hd.mk h
  have hok := h.ok
  have HW := swr_c h slot
  have HR := room_c h
  by_cases hsl : 0 ≤ slot ∧ slot < 2
  case neg =>
    have e0 : swr slot = 1 := by unfold swr; rw [if_neg hsl]
    have er : sread D slot size = ([], 1) := by unfold sread; rw [if_pos (by rw [e0]; decide)]
    rw [er]
    rw [e0] at HW
    clear hok h hsl e0 er HR
    go_enter Try.func87, Try.ntmps87
    go_wp2_with fail
    refine HW.mono ?_
    rintro e w1 ⟨rfl, rfl⟩
    clear HW
    go_wp2_with fail
    go_ret2
    exact ⟨rfl, Below.refl _ _⟩
  have e0 : swr slot = 0 := by unfold swr; rw [if_pos hsl]
  rw [e0] at HW
  obtain ⟨sn, rfl⟩ := Int.eq_ofNat_of_zero_le hsl.1
  have hs2 : sn < 2 := by omega
  by_cases hneg : size < 0
  · have er : sread D (sn : Int) size = ([], 1) := by unfold sread; rw [if_neg (by rw [e0]; decide), if_pos (.inl hneg)]
    rw [er]
    clear hok h hsl e0 er HR
    go_enter Try.func87, Try.ntmps87
    go_wp2_with fail
    refine HW.mono ?_
    rintro e w1 ⟨rfl, rfl⟩
    clear HW
    go_wp2_with fail
    go_ret2
    exact ⟨rfl, Below.refl _ _⟩
  by_cases hbig : ((bks D * 64 : Nat) : Int) < size
  · have er : sread D (sn : Int) size = ([], 1) := by unfold sread; rw [if_neg (by rw [e0]; decide), if_pos (.inr hbig)]
    rw [er]
    obtain ⟨r, hr⟩ : ∃ r, bks D = r := ⟨_, rfl⟩
    rw [hr] at HR hbig
    clear hok h hsl e0 er hr
    go_enter Try.func87, Try.ntmps87
    go_wp2_with fail
    refine HW.mono ?_
    rintro e w1 ⟨rfl, rfl⟩
    clear HW
    go_wp2_with fail
    refine HR.mono ?_
    rintro e w1 ⟨rfl, rfl⟩
    clear HR
    go_wp2_with fail
    go_ret2
    exact ⟨rfl, Below.refl _ _⟩
  obtain ⟨m, rfl⟩ := Int.eq_ofNat_of_zero_le (show 0 ≤ size by omega)
  have hbk : bks D ≤ 252 ∧ 8 + sn * bks D + bks D ≤ D.L.length := by
    have h1 := hok.lo
    have h2 := hok.hi
    unfold bks
    refine ⟨by omega, ?_⟩
    have : sn * ((D.L.length - 8) / 2) ≤ 1 * ((D.L.length - 8) / 2) := Nat.mul_le_mul_right _ (by omega)
    omega
  have hm : m ≤ bks D * 64 := by omega
  have hC1 : cnt m ≤ bks D := by unfold cnt; omega
  have hC2 : m ≤ 64 * cnt m := by unfold cnt; omega
  have hC3 : m ≠ 0 → 0 < cnt m := by unfold cnt; omega
  have hC4 : m = 0 → cnt m = 0 := by unfold cnt; omega
  have HC := cnt_c m (by omega) w
  have hfi : ∀ w', Below w.heap.size w w' → Calls Try.prog 91 #[.pointer (some ⟨b, 0, none⟩), .int .i64 (sn : Int)] w' fun e w2 => e = .returned (.int .i64 ((8 + sn * bks D : Nat) : Int)) ∧ w' = w2 := fun w' hb => sfirst_c (HD.out.ext hb) sn hs2
  have HRS : Hd (sread D (sn : Int) (m : Int) = if D.off = true ∧ m ≠ 0 then ([], 7) else ((sgets D (8 + sn * bks D) (cnt m)).take m, 0)) := ⟨by
    unfold sread
    rw [if_neg (by rw [e0]; decide), if_neg (by rintro (hc | hc); exact hneg hc; exact hbig hc)]
    simp⟩
  obtain ⟨R, hR⟩ : ∃ R, sread D (sn : Int) (m : Int) = R := ⟨_, rfl⟩
  rw [hR] at HRS ⊢
  obtain ⟨a, ha⟩ : ∃ a, 8 + sn * bks D = a := ⟨_, rfl⟩
  obtain ⟨r, hr⟩ : ∃ r, bks D = r := ⟨_, rfl⟩
  obtain ⟨C, hC⟩ : ∃ C, cnt m = C := ⟨_, rfl⟩
  rw [ha] at HRS hfi hbk
  rw [hr] at HR hbig hbk hC1 hm
  rw [hC] at HC HRS hC1 hC2 hC3 hC4
  have hCb : C ≤ 252 := by omega
  have HBK := Hd.mk (And.intro (And.intro hbk hC1) (And.intro hC2 (And.intro hC3 hC4)))
  have HOK := Hd.mk hok
  clear h hsl e0 hok hR ha hr hC hbk hC1 hC2 hC3 hC4 hneg
  go_enter Try.func87, Try.ntmps87
  go_wp2_with fail
  refine HW.mono ?_
  rintro e w1 ⟨rfl, rfl⟩
  clear HW
  go_wp2_with fail
  refine HR.mono ?_
  rintro e w1 ⟨rfl, rfl⟩
  clear HR
  go_wp2_with fail
  refine HC.mono ?_
  rintro e w1 ⟨rfl, rfl⟩
  clear HC
  go_wp2_with fail
  go_loopw [9, 29] (fun x i wr => ∃ j : Nat, i = .int .i64 j ∧ j ≤ C ∧ Hd (D.off = true → j = 0) ∧ Hd (OwnB wr w.heap.size x (sgets D a j)) ∧ Hd (Below w.heap.size w wr)) (fun _ i _ => C - (intOf i).toNat)
  case atStart => exact ⟨0, rfl, Nat.zero_le _, ⟨fun _ => rfl⟩, ⟨OwnB.nil _ _⟩, ⟨Below.refl _ _⟩⟩
  case round =>
    obtain ⟨j, rfl, hj, HO, HX, HB⟩ := hrel
    by_cases hlt : j < C
    · have hf := hfi wr HB.out
      have hs1 : (a : Int) + (j : Int) ≤ 1000 := by have h1 := HBK.out.1.1.2; have h2 := HOK.out.hi; have h3 := HBK.out.1.2; omega
      by_cases ho : D.off = true
      · have hrd := read_off (HD.out.ext HB.out) ho ((a : Int) + (j : Int))
        go_wp2_with (go_at_call 91; refine hf.mono ?_; rintro e w' ⟨rfl, rfl⟩)
        refine hrd.mono ?_
        rintro e w2 ⟨rfl, rfl⟩
        clear hrd hf
        go_wp2_with fail
        go_ret2
        refine ⟨?_, HB.out⟩
        have hm0 : m ≠ 0 := by intro hc; have := HBK.out.2.2.2 hc; omega
        rw [HRS.out, if_pos ⟨ho, hm0⟩]
        rfl
      · have hof : D.off = false := by simpa using ho
        have hjl : a + j < D.L.length := by have h1 := HBK.out.1.1.2; have h3 := HBK.out.1.2; omega
        have hrd := read_c (HD.out.ext HB.out) hof (a + j) hjl
        rw [Int.natCast_add] at hrd
        have hgl := get_len HOK.out (a + j) hjl
        have hal := sgets_len HOK.out a j (by omega)
        obtain ⟨G, hG⟩ : ∃ G, D.get (a + j) = G := ⟨_, rfl⟩
        rw [hG] at hrd hgl
        have HG := Hd.mk hG
        have HGL := Hd.mk (And.intro hgl hal)
        have HOF := Hd.mk hof
        clear hG hgl hal ho hof
        go_wp2_with (go_at_call 91; refine hf.mono ?_; rintro e w' ⟨rfl, rfl⟩)
        refine hrd.mono ?_
        rintro e w2 ⟨rfl, rfl⟩
        clear hrd hf
        go_wp2_with ((with_reducible refine wpList_plain rfl fun K hK => W_appS (.tmp 45) (.tmp 46) ⟨G.toArray⟩ HX.out ?hp fun v' w3 h1 h2 h3 => hK _ _ ?_); (case hp => exact ⟨rfl, rfl, by have := HGL.out.1; have := HGL.out.2; show _ + G.length ≤ _; omega, HB.out.size⟩); have G4 := Hd.mk h1; have G5 := Hd.mk h2; have G6 := Hd.mk h3; clear h1 h2 h3)
        go_roundw
        case rel =>
          refine ⟨j + 1, by go_num, hlt, ⟨fun hc => by rw [HOF.out] at hc; cases hc⟩, ⟨?_⟩, ⟨Below.app HB.out G5.out HX.out HB.out.size (Nat.le_refl _)⟩⟩
          have := G4.out
          rw [sgets, HG.out]
          exact this
        case measure => simp [intOf]; omega
    · have hjC : j = C := by omega
      subst hjC
      obtain ⟨p, c, hv⟩ := HX.out.form _ rfl
      subst hv
      have hal : D.off = false → (sgets D a j).length = 64 * j := fun _ => sgets_len HOK.out a j (by have h1 := HBK.out.1.1.2; have h3 := HBK.out.1.2; omega)
      have hal2 : (sgets D a j).length = 64 * j := sgets_len HOK.out a j (by have h1 := HBK.out.1.1.2; have h3 := HBK.out.1.2; omega)
      have hml : m ≤ (sgets D a j).length := by have := HBK.out.2.1; omega
      have hcap := HX.out.cap
      obtain ⟨A, hA⟩ : ∃ A, sgets D a j = A := ⟨_, rfl⟩
      rw [hA] at HX HRS hml hcap
      rw [hA]
      have HPRE := Hd.mk (HX.out.pre m hml)
      have hst := run_strof 38 HPRE.out Try.underlying38 9 Try.underlying9
      have hmc : m ≤ c := by omega
      obtain ⟨T, hT⟩ : ∃ T, A.take m = T := ⟨_, rfl⟩
      rw [hT] at hst HRS
      have hRT : Hd (R = (T, 0)) := ⟨by
        rw [HRS.out, if_neg]
        rintro ⟨h1, h2⟩
        have h3 := HO.out h1
        have h4 := HBK.out.2.2.1 h2
        omega⟩
      clear hA hT hal hal2 hcap
      go_wp2_with fail
      go_ret2
      exact ⟨by rw [hRT.out]; rfl, HB.out⟩
end Go.Proofs.Ytkdakmddlkgjkaa
