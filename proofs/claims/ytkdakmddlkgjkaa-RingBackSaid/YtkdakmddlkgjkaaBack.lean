import Derived.Outline
import Derived.Deep.DeepCutAuto
import Derived.Deep.RegionHeld3
import Derived.Test.YtkdakmddlkgjkaaKn5b
open Go.RowKit Go.Lib
namespace Go.Proofs.Ytkdakmddlkgjkaa
set_option maxRecDepth 100000
open Sha
theorem count_c (a m : Int) (w : World) (ha : -9223372036854775808 ≤ a ∧ a ≤ 9223372036854775807) (hm : 0 < m) : Calls Try.prog 20 #[.int .i64 a, .int .i64 m] w fun e w' => e = .returned (.int .i64 ((if a < 0 then -(a + 1) else a) % m)) ∧ w = w' := by
  obtain ⟨ha1, ha2⟩ := ha
  by_cases h : a < 0
  · rw [if_pos h]
    have h0 : 0 ≤ -(a + 1) := by omega
    have e : -((a + 1).tmod m) = -(a + 1) % m := by rw [← Int.neg_tmod]; exact Int.tmod_eq_emod_of_nonneg h0
    have E := Hd.mk e
    clear e
    go_enter Try.func20, Try.ntmps20
    go_wp2_with fail
    go_ret
    exact ⟨congrArg (fun z => Ending.returned (.int .i64 z)) E.out, rfl⟩
  · rw [if_neg h]
    go_enter Try.func20, Try.ntmps20
    go_wp2_with fail
    go_ret
    exact ⟨rfl, rfl⟩
theorem back_cat (S : List UInt8) (c : UInt8) (k : Nat) : ({ data := S.toArray } : ByteArray).extract 0 k ++ { data := #[c] } ++ ({ data := S.toArray } : ByteArray).extract (k + 1) S.length = ⟨(S.take k ++ [c] ++ S.drop (k + 1)).toArray⟩ := by
  apply ByteArray.ext
  have e : List.take (S.length - (k + 1)) (List.drop (k + 1) S) = List.drop (k + 1) S := List.take_of_length_le (by simp)
  simp [List.extract_eq_take_drop, e]
set_option maxHeartbeats 2000000 in
theorem back_big (k n sl sz at0 m : Int) (l : List UInt8) (h1 : 1000 < l.length) (w : World) :
    Calls Try.prog 4 #[.agg #[.int .i64 k, .int .i64 n, .int .i64 sl, .int .i64 sz, .string ⟨l.toArray⟩], .int .i64 at0, .int .u8 m] w fun e w' => e = .returned (.bool true) ∧ Below w.heap.size w w' := by
  have hb0 : Below w.heap.size w (w.alloc (.cells #[.int .i64 k, .int .i64 n, .int .i64 sl, .int .i64 sz, .string ⟨l.toArray⟩] 23 (0, 0))) := (Below.refl _ _).alloc (Nat.le_refl _) _
  have B0 := Hd.mk hb0
  clear hb0
  have h1' : (1000 : Int) < (l.length : Int) := by omega
  go_enter Try.func4, Try.ntmps4
  go_wp2_with fail
  refine (known5_c _).mono ?_
  rintro e w1 ⟨rfl, hb⟩
  have B1 : Hd (Below w.heap.size w w1) := ⟨B0.out.trans (hb.mono B0.out.size)⟩
  clear hb
  go_wp2_with fail
  go_ret
  exact ⟨rfl, B1.out⟩
set_option maxHeartbeats 2000000 in
theorem back_bad (k n sl sz at0 m : Int) (l : List UInt8) (h1 : ¬ 1000 < l.length) (hr : (En.mk k n sl sz l).right = false) (w : World) :
    Calls Try.prog 4 #[.agg #[.int .i64 k, .int .i64 n, .int .i64 sl, .int .i64 sz, .string ⟨l.toArray⟩], .int .i64 at0, .int .u8 m] w fun e w' => e = .returned (.bool true) ∧ Below w.heap.size w w' := by
  have hb0 : Below w.heap.size w (w.alloc (.cells #[.int .i64 k, .int .i64 n, .int .i64 sl, .int .i64 sz, .string ⟨l.toArray⟩] 23 (0, 0))) := (Below.refl _ _).alloc (Nat.le_refl _) _
  have B0 := Hd.mk hb0
  have hbd : ∀ w, Calls Try.prog 14 #[.agg #[.int .i64 k, .int .i64 n, .int .i64 sl, .int .i64 sz, .string ⟨l.toArray⟩]] w fun r w' => r = .returned (.tuple #[.string ⟨#[]⟩, .int .i64 1]) ∧ Below w.heap.size w w' := ebuild_no ⟨k, n, sl, sz, l⟩ hr
  have hgiv := given_c k n sl sz l
  clear hb0 hr
  have h1' : ¬ (1000 : Int) < (l.length : Int) := by omega
  go_enter Try.func4, Try.ntmps4
  go_wp2_with fail
  refine (hgiv _).mono ?_
  rintro e w1 ⟨rfl, hb⟩
  have B1 : Hd (Below w.heap.size w w1) := ⟨B0.out.trans (hb.mono B0.out.size)⟩
  clear hb hgiv
  go_wp2_with fail
  refine (hbd _).mono ?_
  rintro e w2 ⟨rfl, hb⟩
  have B2 : Hd (Below w.heap.size w w2) := ⟨B1.out.trans (hb.mono B1.out.size)⟩
  clear hb hbd
  go_wp2_with fail
  refine (known5_c _).mono ?_
  rintro e w3 ⟨rfl, hb⟩
  have B3 : Hd (Below w.heap.size w w3) := ⟨B2.out.trans (hb.mono B2.out.size)⟩
  clear hb
  go_wp2_with fail
  go_ret
  exact ⟨rfl, B3.out⟩
set_option maxHeartbeats 4000000 in
theorem back_ok (k n sl sz at0 : Int) (c : UInt8) (l : List UInt8) (h1 : ¬ 1000 < l.length) (hr : (En.mk k n sl sz l).right = true) (ha : -9223372036854775808 ≤ at0 ∧ at0 ≤ 9223372036854775807) (w : World) :
    Calls Try.prog 4 #[.agg #[.int .i64 k, .int .i64 n, .int .i64 sl, .int .i64 sz, .string ⟨l.toArray⟩], .int .i64 at0, .int .u8 (bn c)] w fun e w' => e = .returned (.bool true) ∧ Below w.heap.size w w' := by
  obtain ⟨S, hS⟩ : ∃ S, (En.mk k n sl sz l).blk = S := ⟨_, rfl⟩
  have hSl : S.length = 64 := by rw [← hS]; exact blk_len _ hr
  have hbd : ∀ w, Calls Try.prog 14 #[.agg #[.int .i64 k, .int .i64 n, .int .i64 sl, .int .i64 sz, .string ⟨l.toArray⟩]] w fun r w' => r = .returned (.tuple #[.string ⟨S.toArray⟩, .int .i64 0]) ∧ Below w.heap.size w w' := by
    intro w; rw [← hS]; exact ebuild_yes ⟨k, n, sl, sz, l⟩ hr w
  have hpar : ∀ w, Calls Try.prog 17 #[.string ⟨S.toArray⟩] w fun r w' => r = .returned (.tuple #[.agg #[.int .i64 k, .int .i64 n, .int .i64 sl, .int .i64 sz, .string ⟨l.toArray⟩], .bool true]) ∧ Below w.heap.size w w' := by
    intro w
    have h2 := eparse_c S w
    have h3 := parse_blk _ hr
    rw [hS] at h3
    rw [h3] at h2
    exact h2
  have hgiv := given_c k n sl sz l
  have htak := taken_c k n sl sz l
  obtain ⟨K, hK⟩ : ∃ K : Nat, (if at0 < 0 then -(at0 + 1) else at0) % 64 = (K : Int) := ⟨((if at0 < 0 then -(at0 + 1) else at0) % 64).toNat, by omega⟩
  have hK64 : K < 64 := by omega
  have hcnt : ∀ w, Calls Try.prog 20 #[.int .i64 at0, .int .i64 64] w fun e w' => e = .returned (.int .i64 (K : Int)) ∧ w = w' := by
    intro w; rw [← hK]; exact count_c at0 64 w ha (by decide)
  have ne := ne_ref k n sl sz k n sl sz l l
  rw [decide_eq_true rfl] at ne
  simp only [Bool.not_true] at ne
  obtain ⟨N, hN⟩ : ∃ N, w.heap.size = N := ⟨_, rfl⟩
  have HN := Hd.mk hN
  have hx0 := blk_new w #[.int .i64 k, .int .i64 n, .int .i64 sl, .int .i64 sz, .string ⟨l.toArray⟩] 23 (0, 0) N hN
  have X0 := Hd.mk hx0
  have hb0 : Below w.heap.size w (w.alloc (.cells #[.int .i64 k, .int .i64 n, .int .i64 sl, .int .i64 sz, .string ⟨l.toArray⟩] 23 (0, 0))) := (Below.refl _ _).alloc (Nat.le_refl _) _
  have B0 := Hd.mk hb0
  have h1' : ¬ (1000 : Int) < (l.length : Int) := by omega
  have hl1 : ((S.length : Int) != 64) = false := by rw [bne_eq_false_iff_eq]; omega
  have HSL := Hd.mk hSl
  clear hb0 hr hS hK hN hx0 hSl
  go_enter Try.func4, Try.ntmps4
  go_wp2_with fail
  refine (hgiv _).mono ?_
  rintro e w1 ⟨rfl, hb⟩
  have B1 : Hd (Below w.heap.size w w1) := ⟨B0.out.trans (hb.mono B0.out.size)⟩
  have X1 := Hd.mk (blk_below X0.out hb (blk_lt X0.out))
  clear hb hgiv B0 X0
  go_wp2_with fail
  refine (hbd _).mono ?_
  rintro e w2 ⟨rfl, hb⟩
  have B2 : Hd (Below w.heap.size w w2) := ⟨B1.out.trans (hb.mono B1.out.size)⟩
  have X2 := Hd.mk (blk_below X1.out hb (blk_lt X1.out))
  clear hb hbd B1 X1
  go_wp2_with fail
  refine (hpar _).mono ?_
  rintro e w3 ⟨rfl, hb⟩
  have B3 : Hd (Below w.heap.size w w3) := ⟨B2.out.trans (hb.mono B2.out.size)⟩
  have X3 := Hd.mk (blk_below X2.out hb (blk_lt X2.out))
  clear hb hpar B2 X2
  rw [HN.out]
  go_upto_region 7 with fail
  obtain ⟨N3, hN3⟩ : ∃ N3, w3.heap.size = N3 := ⟨_, rfl⟩
  rw [hN3]
  have HN3 := Hd.mk hN3
  clear hN3
  go_cut [52] (fun v wx => v = .bool false ∧ Hd (Below w.heap.size w wx))
  case first =>
    have hN3 := HN3.out
    have hy0 := blk_new w3 #[.int .i64 k, .int .i64 n, .int .i64 sl, .int .i64 sz, .string ⟨l.toArray⟩] 28 (0, 0) N3 hN3
    have hx0 := blk_alloc X3.out (.cells #[.int .i64 k, .int .i64 n, .int .i64 sl, .int .i64 sz, .string ⟨l.toArray⟩] 28 (0, 0))
    have hB0 : Below w.heap.size w (w3.alloc (.cells #[.int .i64 k, .int .i64 n, .int .i64 sl, .int .i64 sz, .string ⟨l.toArray⟩] 28 (0, 0))) := B3.out.alloc B3.out.size _
    refine wp_world (fun w4 => w4.heap[N3]? = some (.cells #[.int .i64 k, .int .i64 n, .int .i64 sl, .int .i64 sz, .string ⟨l.toArray⟩] 28 (0, 0)) ∧ w4.heap[N]? = some (.cells #[.int .i64 k, .int .i64 n, .int .i64 sl, .int .i64 sz, .string ⟨l.toArray⟩] 23 (0, 0)) ∧ Below w.heap.size w w4) ⟨hy0, hx0, hB0⟩ ?_
    clear hy0 hx0 hB0 hN3
    rintro w4 ⟨hy, hx, hB⟩
    have HY := Hd.mk hy
    have HX := Hd.mk hx
    have B4 := Hd.mk hB
    have y0 := blk_cell hy 0
    have y1 := blk_cell hy 1
    have y2 := blk_cell hy 2
    have y3 := blk_cell hy 3
    have y4 := blk_cell hy 4
    have x0 := blk_cell hx 0
    have x1 := blk_cell hx 1
    have x2 := blk_cell hx 2
    have x3 := blk_cell hx 3
    have x4 := blk_cell hx 4
    simp only [List.getElem?_toArray, List.getElem?_cons_zero, List.getElem?_cons_succ] at y0 y1 y2 y3 y4 x0 x1 x2 x3 x4
    clear hy hx hB
    go_region_held3 (fun w' => w'.cell? ⟨N3, 0, none⟩ = some (.int .i64 k) ∧ w'.cell? ⟨N3, 1, none⟩ = some (.int .i64 n) ∧ w'.cell? ⟨N3, 2, none⟩ = some (.int .i64 sl) ∧ w'.cell? ⟨N3, 3, none⟩ = some (.int .i64 sz) ∧ w'.cell? ⟨N3, 4, none⟩ = some (.string ⟨l.toArray⟩) ∧
        w'.cell? ⟨N, 0, none⟩ = some (.int .i64 k) ∧ w'.cell? ⟨N, 1, none⟩ = some (.int .i64 n) ∧ w'.cell? ⟨N, 2, none⟩ = some (.int .i64 sl) ∧ w'.cell? ⟨N, 3, none⟩ = some (.int .i64 sz) ∧ w'.cell? ⟨N, 4, none⟩ = some (.string ⟨l.toArray⟩))
      (first | exact ⟨y0, y1, y2, y3, y4, x0, x1, x2, x3, x4⟩ | exact ⟨z0, z1, z2, z3, z4, v0, v1, v2, v3, v4⟩)
      (first | (go_at_call 19; refine (htak _).mono ?_; rintro e w5 ⟨rfl, hb⟩; have hyy := blk_below (blk_drew HY.out) hb (blk_lt HY.out); have hxx := blk_below (blk_drew HX.out) hb (blk_lt HX.out); have z0 := blk_cell hyy 0; have z1 := blk_cell hyy 1; have z2 := blk_cell hyy 2; have z3 := blk_cell hyy 3; have z4 := blk_cell hyy 4; have v0 := blk_cell hxx 0; have v1 := blk_cell hxx 1; have v2 := blk_cell hxx 2; have v3 := blk_cell hxx 3; have v4 := blk_cell hxx 4; simp only [List.getElem?_toArray, List.getElem?_cons_zero, List.getElem?_cons_succ] at z0 z1 z2 z3 z4 v0 v1 v2 v3 v4))
    all_goals
      have B5 : Hd (Below w.heap.size w w5) := ⟨B4.out.drew.trans (hb.mono B4.out.size)⟩
      clear hb hyy hxx z0 z1 z2 z3 z4 v0 v1 v2 v3 v4 y0 y1 y2 y3 y4 x0 x1 x2 x3 x4
      go_wp2_with fail
      go_meet
      case rel =>
        refine ⟨?_, B5⟩
        first | rfl | exact congrArg Value.bool hl1 | trace_state
  case rest =>
    obtain ⟨rfl, B4⟩ := hcut
    clear X3 B3 htak ne
    have s1 : (0 : Int) ≤ (K : Int) := by omega
    have s2 : (K : Int) ≤ (S.length : Int) := by rw [HSL.out]; omega
    have s3 : (K : Int) + 1 ≤ (S.length : Int) := by rw [HSL.out]; omega
    have s4 : IntKind.i64.wrap ((K : Int) + 1) = (K : Int) + 1 := IntWalk.i64_in _ (by omega)
    have s5 : (0 : Int) ≤ (K : Int) + 1 := by omega
    have s6 : ((K : Int) + 1).toNat = K + 1 := by omega
    go_wp2_with fail
    refine (hcnt _).mono ?_
    rintro e w5 ⟨rfl, rfl⟩
    clear hcnt
    go_wp2_with fail
    refine region_ext [0, 0, 0, 0, 2, 2, 2, 0, 0, 0, 0, 1, 1] (by kernel_rfl) (by kernel_rfl) (fun _ _ _ _ _ h => h) ?_
    simp (decide := true) only [pick, ↓reduceIte]
    repeat go_big_quiet_step (fail)
    refine wpQuiet_nil ?_
    refine wpF_plain rfl ?_
    refine W_buildB 1 [.tmp 58] [c] ⟨rfl, rfl, by decide, by decide⟩ ?_
    refine ⟨(Below.refl _ _).alloc (Nat.le_refl _) _, ?_⟩
    have hcv : ∀ w6, w6 = wc.drew.alloc (.cells ([c].map b8).toArray 5) → (convert 38 9 (.slice (some ⟨wc.heap.size, 0, none⟩) 1 1)).run Try.prog w6 = .ok (.string ⟨#[c]⟩) w6 := by
      rintro _ rfl
      exact run_strof 38 (OwnB.lit wc.drew 0 wc.heap.size [c] _ rfl rfl (Nat.zero_le _) ⟨by show 0 < 1; omega, by show 1 ≤ 140737488355328; omega⟩ 1 rfl) Try.underlying38 9 Try.underlying9
    have hbw : ∀ w6, w6 = wc.drew.alloc (.cells ([c].map b8).toArray 5) → Below w.heap.size w w6 := by
      rintro _ rfl
      exact B4.out.drew.alloc B4.out.size _
    generalize hw6 : wc.drew.alloc (.cells ([c].map b8).toArray 5) = w6
    have cv := hcv w6 hw6.symm
    have B6 := Hd.mk (hbw w6 hw6.symm)
    clear hcv hbw hw6
    refine wpF_plain rfl ?_
    go_step
    refine ⟨Below.refl _ _, ?_⟩
    have hov1 : ¬ 9223372036854775807 < K + 1 := by omega
    have hov2 : K + 1 < 9223372036854775807 := by omega
    refine wpF_plain rfl ?_
    go_step
    obtain ⟨T, hT⟩ : ∃ T, S.take K ++ [c] ++ S.drop (K + 1) = T := ⟨_, rfl⟩
    have hcat := back_cat S c K
    rw [hT] at hcat
    have hov3 : ¬ 9223372036854775807 < K + 1 + (S.length - (K + 1)) := by rw [HSL.out]; omega
    have hpT := fun w => eparse_c T w
    have hpp : ∀ y, parse T = some y → y.right = true ∧ y.blk = T := fun y hy => ⟨(of_parse hy).1, (of_parse hy).2.1⟩
    refine ⟨Below.refl _ _, wpF_nil ?_⟩
    clear hT
    cases hp : parse T with
    | none =>
      rw [hp] at hpT
      clear hpp hp
      change ∀ w, Calls Try.prog 17 #[.string ⟨T.toArray⟩] w fun r w' => r = .returned (.tuple #[.agg #[.int .i64 0, .int .i64 0, .int .i64 0, .int .i64 0, .string ⟨#[]⟩], .bool false]) ∧ Below w.heap.size w w' at hpT
      have hbad : ∀ w, Calls Try.prog 14 #[.agg #[.int .i64 0, .int .i64 0, .int .i64 0, .int .i64 0, .string ⟨#[]⟩]] w fun r w' => r = .returned (.tuple #[.string ⟨#[]⟩, .int .i64 1]) ∧ Below w.heap.size w w' := fun w => ebuild_no E0 (by decide) w
      go_wp2_with fail
      refine (hpT _).mono ?_
      rintro e w7 ⟨rfl, hb⟩
      have B7 : Hd (Below w.heap.size w w7) := ⟨B6.out.trans (hb.mono B6.out.size)⟩
      clear hb hpT
      go_wp2_with fail
      refine (hbad _).mono ?_
      rintro e w8 ⟨rfl, hb⟩
      have B8 : Hd (Below w.heap.size w w8) := ⟨(B7.out.alloc B7.out.size _).trans (hb.mono (by rw [sz_alloc]; have := B7.out.size; omega))⟩
      clear hb hbad
      obtain ⟨q, hq⟩ : ∃ q, (T == S) = q := ⟨_, rfl⟩
      cases q
      all_goals
        go_wp2_with fail
        refine (known5_c _).mono ?_
        rintro e w9 ⟨rfl, hb⟩
        have B9 : Hd (Below w.heap.size w w9) := ⟨B8.out.trans (hb.mono B8.out.size)⟩
        clear hb
        go_wp2_with fail
        go_ret
        exact ⟨rfl, B9.out⟩
    | some y =>
      obtain ⟨hy1, hy2⟩ := hpp y hp
      rw [hp] at hpT
      clear hpp hp
      obtain ⟨yk, yn, ysl, ysz, yl⟩ := y
      have hbT : ∀ w, Calls Try.prog 14 #[.agg #[.int .i64 yk, .int .i64 yn, .int .i64 ysl, .int .i64 ysz, .string ⟨yl.toArray⟩]] w fun r w' => r = .returned (.tuple #[.string ⟨T.toArray⟩, .int .i64 0]) ∧ Below w.heap.size w w' := by
        intro w; rw [← hy2]; exact ebuild_yes ⟨yk, yn, ysl, ysz, yl⟩ hy1 w
      clear hy1 hy2
      change ∀ w, Calls Try.prog 17 #[.string ⟨T.toArray⟩] w fun r w' => r = .returned (.tuple #[.agg #[.int .i64 yk, .int .i64 yn, .int .i64 ysl, .int .i64 ysz, .string ⟨yl.toArray⟩], .bool true]) ∧ Below w.heap.size w w' at hpT
      have hTT : (T == T) = true := by simp
      go_wp2_with fail
      refine (hpT _).mono ?_
      rintro e w7 ⟨rfl, hb⟩
      have B7 : Hd (Below w.heap.size w w7) := ⟨B6.out.trans (hb.mono B6.out.size)⟩
      clear hb hpT
      go_wp2_with fail
      refine (hbT _).mono ?_
      rintro e w8 ⟨rfl, hb⟩
      have B8 : Hd (Below w.heap.size w w8) := ⟨(B7.out.alloc B7.out.size _).trans (hb.mono (by rw [sz_alloc]; have := B7.out.size; omega))⟩
      clear hb hbT
      obtain ⟨q, hq⟩ : ∃ q, (T == S) = q := ⟨_, rfl⟩
      cases q
      all_goals
        go_wp2_with fail
        refine (known5_c _).mono ?_
        rintro e w9 ⟨rfl, hb⟩
        have B9 : Hd (Below w.heap.size w w9) := ⟨B8.out.trans (hb.mono B8.out.size)⟩
        clear hb
        go_wp2_with fail
        go_ret
        exact ⟨rfl, B9.out⟩
end Go.Proofs.Ytkdakmddlkgjkaa
