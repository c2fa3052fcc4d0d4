import Derived.Outline
import Derived.Test.YtkdakmddlkgjkaaDk5
open Go.RowKit Go.Lib
namespace Go.Proofs.Ytkdakmddlkgjkaa
set_option maxRecDepth 100000
set_option maxHeartbeats 1000000 in
theorem dwrite_c {w : World} {b : Nat} {D : Ds} {F : Nat → Prop} (h : IsDisk w b D F) (hops : D.ops + 1 < 1000000000) (hgh : D.gh + 1 < 1000000000) (i : Int) (s : List UInt8) :
    Calls Try.prog 28 #[.pointer (some ⟨b, 0, none⟩), .int .i64 i, .string ⟨s.toArray⟩] w fun e w' => e = .returned (.int .i64 ((D.write i s).1 : Nat)) ∧ ∃ F', IsDisk w' b (D.write i s).2 F' ∧ Upd F w w' ∧ ∀ k, F' k → F k ∨ w.heap.size ≤ k := by
  have hbad : ∀ e : Nat, wr D i = e → e ≠ 0 → D.write i s = (e, D) → Calls Try.prog 28 #[.pointer (some ⟨b, 0, none⟩), .int .i64 i, .string ⟨s.toArray⟩] w fun e w' => e = .returned (.int .i64 ((D.write i s).1 : Nat)) ∧ ∃ F', IsDisk w' b (D.write i s).2 F' ∧ Upd F w w' ∧ ∀ k, F' k → F k ∨ w.heap.size ≤ k := by
    intro e he h0 hw
    rw [hw]
    have HW := wrong_c h i
    rw [he] at HW
    have H := Hd.mk h
    have hb1 : ((e : Int) != 0) = true := by rw [bne_iff_ne]; omega
    clear he h0 hw h
    go_enter Try.func28, Try.ntmps28
    go_wp2_with fail
    refine HW.mono ?_
    rintro e w' ⟨rfl, rfl⟩
    clear HW
    go_wp2
    go_ret
    exact ⟨rfl, F, H.out, Upd.refl _ _, fun k hk => .inl hk⟩
  by_cases ho : D.off = true
  · exact hbad 7 (by unfold wr; rw [if_pos ho]) (by decide) (by unfold Ds.write; rw [if_pos ho])
  · by_cases hi : 0 ≤ i ∧ i < D.L.length
    · by_cases hs : s.length = 64
      · obtain ⟨n, rfl⟩ := Int.eq_ofNat_of_zero_le hi.1
        have e : D.write (n : Int) s = ((if (D.put n s).1 then 7 else 0), (D.put n s).2) := by
          unfold Ds.write; rw [if_neg ho, if_pos ⟨hi.1, hi.2, hs⟩]; rfl
        rw [e]
        refine (put_d h hops hgh (by simpa using ho) n s (by omega) hs).mono ?_
        rintro e w' ⟨rfl, r⟩
        refine ⟨?_, r⟩
        cases (D.put n s).1 <;> rfl
      · have e : D.write i s = (1, D) := by unfold Ds.write; rw [if_neg ho, if_neg fun hc => hs hc.2.2]
        rw [e]
        have HW := wrong_c h i
        have hr : wr D i = 0 := by unfold wr; rw [if_neg ho, if_pos hi]
        rw [hr] at HW
        have H := Hd.mk h
        have hl1 : ((s.length : Int) != 64) = true := by rw [bne_iff_ne]; omega
        clear hr e hs hi ho h hbad
        go_enter Try.func28, Try.ntmps28
        go_wp2_with fail
        refine HW.mono ?_
        rintro e w' ⟨rfl, rfl⟩
        clear HW
        go_wp2
        go_ret
        exact ⟨rfl, F, H.out, Upd.refl _ _, fun k hk => .inl hk⟩
    · exact hbad 1 (by unfold wr; rw [if_neg ho, if_neg hi]) (by decide) (by unfold Ds.write; rw [if_neg ho, if_neg fun hc => hi ⟨hc.1, hc.2.1⟩])
theorem dsync_c {w : World} {b : Nat} {D : Ds} {F : Nat → Prop} (h : IsDisk w b D F) (hops : D.ops + 1 < 1000000000) :
    Calls Try.prog 30 #[.pointer (some ⟨b, 0, none⟩)] w fun e w' => e = .returned (.int .i64 (D.sync.1 : Nat)) ∧ IsDisk w' b D.sync.2 F ∧ Upd F w w' := by
  have HW := wrong_c h 0
  have H := Hd.mk h
  have ok := h.ok
  unfold Ds.sync
  by_cases ho : D.off = true
  · have hr : wr D 0 = 7 := by unfold wr; rw [if_pos ho]
    rw [if_pos ho]
    rw [hr] at HW
    clear hr ho h ok
    go_enter Try.func30, Try.ntmps30
    go_wp2_with fail
    refine HW.mono ?_
    rintro e w' ⟨rfl, rfl⟩
    clear HW
    go_wp2
    go_ret
    exact ⟨rfl, H.out, Upd.refl _ _⟩
  · have hr : wr D 0 = 0 := by
      have := ok.lo
      unfold wr; rw [if_neg ho, if_pos ⟨by decide, by omega⟩]
    rw [if_neg ho]
    rw [hr] at HW
    obtain ⟨q, D2, hq⟩ : ∃ q D2, D.cut = (q, D2) := ⟨_, _, rfl⟩
    rw [hq]
    have HC := cut_c h hops
    rw [hq] at HC
    clear hr ho h ok hq
    cases q with
    | true =>
      show Calls Try.prog _ _ _ fun e w' => e = .returned (.int .i64 7) ∧ IsDisk w' b D2 F ∧ Upd F w w'
      go_enter Try.func30, Try.ntmps30
      go_wp2_with fail
      refine HW.mono ?_
      rintro e w' ⟨rfl, rfl⟩
      clear HW
      go_wp2_with fail
      refine HC.mono ?_
      rintro e w1 ⟨rfl, g⟩
      have G := Hd.mk g
      clear HC g
      go_wp2_with fail
      go_ret
      exact ⟨rfl, G.out⟩
    | false =>
      show Calls Try.prog _ _ _ fun e w' => e = .returned (.int .i64 0) ∧ IsDisk w' b (D2.settle fun _ => true) F ∧ Upd F w w'
      go_enter Try.func30, Try.ntmps30
      go_wp2_with fail
      refine HW.mono ?_
      rintro e w' ⟨rfl, rfl⟩
      clear HW
      go_wp2_with fail
      refine HC.mono ?_
      rintro e w1 ⟨rfl, g1, g2⟩
      have G2 := Hd.mk g2
      have G1 := Hd.mk g1
      clear HC g1 g2
      go_wp2_with fail
      refine (settle_one G1.out).mono ?_
      rintro e w2 ⟨rfl, g1, g2⟩
      have G : Hd (IsDisk w2 b (D2.settle fun _ => true) F ∧ Upd F w w2) := ⟨g1, G2.out.trans g2⟩
      clear g1 g2
      go_wp2_with fail
      go_ret
      exact ⟨rfl, G.out⟩
/-! ### New -/
def Z64 : List UInt8 := List.replicate 64 0
def Ds0 (n : Nat) : Ds := ⟨List.replicate n Z64, [], false, 0, false, 0, 0, 0⟩
theorem info_str : (Try.prog.info? 9).map (fun i => (i.zero, i.size, i.bytes)) = some (some (.string ⟨#[]⟩), 1, 16) := by kernel_rfl
section
variable {ops : Array Oper} {Q : Exit → Act → World → Prop} {dst : Option Tmp} {ty : TypeId} {pos : String} {aft : Array Edge} {a : Act} {w : World} {K : Act → World → Prop}
/-- make([]string, n) -/
theorem W_makeS (n : Nat) (x y : Operand)
    (hp : (∃ k, a.eval x = .int k (n : Int)) ∧ (∃ k, a.eval y = .int k (n : Int)) ∧ n ≤ 1000000)
    (h : ∀ w', OwnS w' w.heap.size (.slice (some ⟨w.heap.size, 0, none⟩) n n) (List.replicate n []) → w.grownBy w' none → K (a.put dst (.slice (some ⟨w.heap.size, 0, none⟩) n n)) w') :
    Oper.wp Try.prog ⟨dst, .makeSlice 66 x y, ty, pos, aft, none⟩ a w K Q := by
  obtain ⟨i, hi, hz, hs, hb⟩ := info_parts info_str
  obtain ⟨⟨k, h1⟩, ⟨k', h2⟩, h3⟩ := hp
  obtain ⟨w', hr, r1, r2⟩ := run_make_full (P := Try.prog) w w.heap.size 66 9 i (.string ⟨#[]⟩) 1 Try.underlying66 hi hz hs k k' n (by rw [hb]; omega) (by simp only [maxLen]; omega) (Nat.le_refl _)
  unfold Oper.wp execOp
  simp only [h1, h2, Sem.run_bind, hr, Result.andThen_ok]
  refine h w' ?_ r2
  have := Own.of r1
  unfold OwnS
  rw [List.length_replicate]
  have he : (madeCells (Value.string ⟨#[]⟩).cells (n * 1)).toList = (List.replicate n ([] : List UInt8)).map sv := by
    rw [List.map_replicate, Nat.mul_one]
    apply List.ext_getElem
    · simp [size_madeCells]
    · intro j h1 h2
      have hz : (Value.string ⟨#[]⟩).cells = #[.string ⟨#[]⟩] := rfl
      simp [madeCells, hz, sv, Nat.mod_one]
  rwa [he] at this
end
def nrow (n k : Nat) : List (List UInt8) := List.replicate k Z64 ++ List.replicate (n - k) []
theorem nrow_len (n k : Nat) (h : k ≤ n) : (nrow n k).length = n := by simp [nrow]; omega
theorem nrow_succ (n k : Nat) (h : k < n) : (nrow n k).set k Z64 = nrow n (k + 1) := by
  unfold nrow
  rw [List.set_append_right _ _ (by simp), show n - k = (n - (k + 1)) + 1 by omega, List.replicate_succ]
  simp only [List.length_replicate, Nat.sub_self, List.set_cons_zero]
  rw [List.replicate_succ' (n := k), List.append_assoc]; rfl
theorem ds0_ok (n : Nat) (h1 : 16 ≤ n) (h2 : n ≤ 512) : (Ds0 n).ok :=
  ⟨by simp [Ds0]; exact h1, by simp [Ds0]; exact h2, fun s hs => by rw [List.eq_of_mem_replicate hs]; simp [Z64], fun p hp => by simp [Ds0] at hp, by simp [Ds0], by simp [Ds0], by simp [Ds0], by simp [Ds0], by simp [Ds0]⟩
structure NewAt (w wr : World) (n k gl m b : Nat) : Prop where
  blk : wr.heap[b]? = some (.cells (dcells (.slice (some ⟨gl, 0, none⟩) n n) (.slice none 0 0) m (Ds0 n)) 109 (0, 0))
  ls : OwnS wr w.heap.size (.slice (some ⟨gl, 0, none⟩) n n) (nrow n k)
  mp : MapIs wr m 0 fun _ => none
  bl : Below w.heap.size w wr
  gb : gl ≠ b
  hb : w.heap.size ≤ b
  hm : w.heap.size ≤ m
section
variable {w wr w2 : World} {n k gl m b : Nat}
theorem NewAt.mne (h : NewAt w wr n k gl m b) (_hk : k ≤ n) (_hn : 0 < n) : m ≠ b ∧ gl ≠ m := by
  obtain ⟨es, clock, hm⟩ := h.mp.obj
  refine ⟨fun e => ?_, fun e => ?_⟩
  · subst e; rw [h.blk] at hm; cases hm
  · rcases h.ls.2 with ⟨he, _⟩ | ⟨g, cap, cur, fr, he, hb, hg, _⟩
    · cases he
    · simp only [Value.slice.injEq, Option.some.injEq, Addr.mk.injEq, and_true] at he
      obtain ⟨rfl, _⟩ := he; subst e; rw [hg] at hm; cases hm
theorem NewAt.glb (h : NewAt w wr n k gl m b) : w.heap.size ≤ gl ∧ gl < wr.heap.size := h.ls.lt gl rfl
theorem NewAt.ext (h : NewAt w wr n k gl m b) (hg : Below wr.heap.size wr w2) : NewAt w w2 n k gl m b :=
  ⟨by rw [hg.block b (blk_lt h.blk)]; exact h.blk, h.ls.keep fun j hj => hg.block j (h.ls.lt j hj).2, h.mp.keep (hg.block m h.mp.lt), h.bl.trans (hg.mono h.bl.size), h.gb, h.hb, h.hm⟩
theorem NewAt.put (h : NewAt w wr n k gl m b) (hk : k < n) : NewAt w (wr.setCell ⟨gl, k, none⟩ (.string ⟨Z64.toArray⟩)) n (k + 1) gl m b := by
  have hl := nrow_len n k (by omega)
  have hm := h.mne (by omega) (by omega)
  refine ⟨blk_set_ne h.blk _ _ fun e => h.gb e.symm, ?_, h.mp.keep (Below.heap_setCell _ _ _ _ fun e => hm.2 e.symm), h.bl.setCell (p := ⟨gl, k, none⟩) h.glb.1 _, h.gb, h.hb, h.hm⟩
  rw [← nrow_succ n k hk]
  exact OwnS.set h.ls hl.symm k (by omega) _
theorem NewAt.done (h : NewAt w wr n n gl m b) (h1 : 16 ≤ n) (h2 : n ≤ 512) : IsDisk wr b (Ds0 n) fun k => w.heap.size ≤ k ∧ k < wr.heap.size := by
  have hm := h.mne (Nat.le_refl _) (by omega)
  refine ⟨_, _, m, h.blk, ?_, Own.nil _ _ _ _, h.mp, ?_, by simp [Value.ownBlock], by simp [Value.ownBlock], ⟨h.hb, blk_lt h.blk⟩, ⟨h.hm, h.mp.lt⟩, ?_, by simp [Value.ownBlock], fun k hk => hk.2, ds0_ok n h1 h2⟩
  · have e : nrow n n = (Ds0 n).L := by simp [nrow, Ds0]
    rw [← e]
    exact h.ls.mono (Nat.zero_le _)
  · intro e; simp only [Value.ownBlock, Option.some.injEq] at e; exact h.gb e
  · intro k hk
    simp only [Value.ownBlock, Option.some.injEq] at hk
    subst hk
    exact h.glb
end
set_option maxHeartbeats 1000000 in
theorem new_d (n : Nat) (hn1 : 16 ≤ n) (hn2 : n ≤ 512) (w : World) :
    Calls Try.prog 24 #[.int .i64 (n : Int)] w fun e w' => ∃ b F, e = .returned (.tuple #[.pointer (some ⟨b, 0, none⟩), .int .i64 0]) ∧ IsDisk w' b (Ds0 n) F ∧ Below w.heap.size w w' ∧ ∀ k, F k → w.heap.size ≤ k := by
  have hmm := @run_makeMap Try.prog
  go_enter Try.func24, Try.ntmps24
  go_wp2_with ((with_reducible refine wpList_plain rfl fun K hK => W_makeS n _ _ ?hp fun w1 h1 h2 => hK _ _ ?_); (case hp => exact ⟨⟨_, rfl⟩, ⟨_, rfl⟩, by omega⟩); have G1 := Hd.mk h1; have G2 := Hd.mk h2; clear h1 h2)
  have hrow : nrow n 0 = List.replicate n [] := by simp [nrow]
  have NA0 : Hd (NewAt w ((w1.alloc (.map #[] 0)).alloc (.cells (dcells (.slice (some ⟨w.heap.size, 0, none⟩) n n) (.slice none 0 0) w1.heap.size (Ds0 n)) 109 (0, 0))) n 0 w.heap.size w1.heap.size (w1.heap.size + 1)) := by
    have hlt := (G1.out.lt w.heap.size rfl).2
    refine ⟨⟨blk_new _ _ _ _ _ (by rw [sz_alloc]), ?_, ?_, ?_, by omega, by omega, by omega⟩⟩
    · rw [hrow]; exact Own.alloc (Own.alloc G1.out _) _
    · exact (MapIs.made w1).keep (Below.heap_alloc _ _ _ (by rw [sz_alloc]; omega))
    · exact (((Below.refl _ _).grown G2.out (Nat.le_refl _) (by simp)).alloc (by omega) _).alloc (by rw [sz_alloc]; omega) _
  clear G1 G2 hrow
  obtain ⟨gl, hgl⟩ : ∃ g, w.heap.size = g := ⟨_, rfl⟩
  obtain ⟨m, hm⟩ : ∃ g, w1.heap.size = g := ⟨_, rfl⟩
  obtain ⟨b, hb⟩ : ∃ g, m + 1 = g := ⟨_, rfl⟩
  rw [hgl, hm, hb] at NA0 ⊢
  have HB := Hd.mk hb
  have HGL := Hd.mk hgl
  clear hgl hm hb hmm
  go_loopw [22] (fun x wr => ∃ k : Nat, x = .int .i64 (k : Int) ∧ k ≤ n ∧ Hd (NewAt w wr n k gl m b)) (fun x _ => n - (intOf x).toNat)
  case atStart => exact ⟨0, rfl, Nat.zero_le _, NA0⟩
  case round =>
    clear NA0
    obtain ⟨k, rfl, hk, NA⟩ := hrel
    by_cases hlt : k < n
    · have d0 := fun x => blk_cell (later_blk NA.out.blk x) 0
      simp only [dcells, List.getElem?_toArray, List.getElem?_cons_zero] at d0
      go_wp2_with fail
      refine region_ext [0, 0, 0, 0, 0, 2, 2, 1, 1] (by kernel_rfl) (by kernel_rfl) (fun _ _ _ _ _ h => h) ?_
      simp (decide := true) only [pick, ↓reduceIte]
      repeat go_big_quiet_step (fail)
      refine wpQuiet_nil ?_
      refine wpF_plain rfl ?_
      refine W_makeB 64 _ _ ⟨⟨_, rfl⟩, ⟨_, rfl⟩, by decide⟩ fun w2 h1 h2 => ?_
      have hbl : Below wr.drew.heap.size wr.drew w2 := (Below.refl _ _).grown h2 (Nat.le_refl _) (by simp)
      refine ⟨hbl, ?_⟩
      have hst : (convert 38 9 (.slice (some ⟨wr.heap.size, 0, none⟩) 64 64)).run Try.prog w2 = .ok (.string ⟨Z64.toArray⟩) w2 := run_strof 38 h1 Try.underlying38 9 Try.underlying9
      refine wpF_plain rfl ?_
      go_step
      refine ⟨Below.refl _ _, wpF_nil ?_⟩
      have NA2 : Hd (NewAt w w2 n k gl m b) := ⟨(NA.out.ext (Below.drew (Below.refl _ _))).ext hbl⟩
      have hl := nrow_len n k hk
      have l1 : ∃ s0, w2.cell? ⟨gl, k, none⟩ = some s0 := by
        have h3 := NA2.out.ls
        exact ⟨_, by rw [Own.cell (n := n) (by have := h3; unfold OwnS at this; rw [hl] at this; exact this) k (by omega), List.getElem?_eq_getElem (by rw [List.length_map, hl]; exact hlt)]⟩
      obtain ⟨s0, l1⟩ := l1
      have l2 : w2.frozen? ⟨gl, k, none⟩ = false := by
        have h3 := NA2.out.ls
        exact Own.free (n := n) (by have := h3; unfold OwnS at this; rw [hl] at this; exact this) k (by omega)
      clear h1 h2 hbl hl d0
      go_wp2_with fail
      go_roundw
      case rel => exact ⟨k + 1, by go_num, hlt, ⟨NA2.out.put hlt⟩⟩
      case measure => simp [intOf]; omega
    · have hkn : k = n := by omega
      have NA2 : Hd (NewAt w wr n n gl m b) := ⟨by rw [← hkn]; exact hkn ▸ NA.out⟩
      clear NA hkn
      go_wp2_with fail
      go_ret2
      exact ⟨b, _, rfl, NA2.out.done hn1 hn2, HGL.out ▸ NA2.out.bl, fun x hx => HGL.out ▸ hx.1⟩
end Go.Proofs.Ytkdakmddlkgjkaa
