import Derived.Test.YtkdakmddlkgjkaaBn
open Go.RowKit Go.Lib
namespace Go.Proofs.Ytkdakmddlkgjkaa
set_option maxRecDepth 100000
open Sha
theorem rr_pure (x : UInt32) (n : Nat) (h0 : 0 < n) (h1 : n < 32) : bits .or .u32 (un x / 2 ^ n) (un x * 2 ^ (32 - n) % 4294967296) = un (rotr x (UInt32.ofNat n)) := by
  have e : (32 - n.toUInt32).toNat = 32 - n := by
    rw [UInt32.toNat_sub_of_le _ _ (by rw [UInt32.le_iff_toNat_le]; simp; omega)]; simp; omega
  have h2 := u_shl x (32 - n.toUInt32) (by omega)
  have e' : n.toUInt32.toNat = n := by simp; omega
  have h3 := u_shr x n.toUInt32 (by omega)
  rw [e] at h2
  rw [e'] at h3
  rw [h2, h3, u_or, rotr]
theorem rr_c (x : UInt32) (n : Nat) (w : World) (h0 : 0 < n) (h1 : n < 32) :
    Calls Try.prog 98 #[.int .u32 (un x), .int .i64 (n : Int)] w fun e w' => e = .returned (.int .u32 (un (ror x n))) ∧ w = w' := by
  have hp := rr_pure x n h0 h1
  go_enter Try.func98, Try.ntmps98
  go_wp2
  go_ret
  exact ⟨rfl, rfl⟩
theorem rr_i (x : UInt32) (i : Int) (w : World) (h0 : 0 < i) (h1 : i < 32) :
    Calls Try.prog 98 #[.int .u32 (un x), .int .i64 i] w fun e w' => e = .returned (.int .u32 (un (ror x i))) ∧ w = w' := by
  obtain ⟨n, rfl⟩ := Int.eq_ofNat_of_zero_le (show 0 ≤ i by omega)
  exact rr_c x n w (by omega) (by omega)
theorem rr_q (x : UInt32) (i : Int) (w : World) (n : Nat) (h0 : 0 < i) (h1 : i < 32) :
    Calls Try.prog 98 #[.int .u32 (un x), .int .i64 i] (w.drewN n) fun e w' => e = .returned (.int .u32 (un (ror x i))) ∧ ∃ m, w' = w.drewN m :=
  (rr_i x i (w.drewN n) h0 h1).mono fun _ _ h => ⟨h.1, n, h.2.symm⟩
theorem rr_q2 (x : UInt32) (i : Int) (w : World) (k n : Nat) (h0 : 0 < i) (h1 : i < 32) :
    Calls Try.prog 98 #[.int .u32 (un x), .int .i64 i] (w.drewN (k + n)) fun e w' => e = .returned (.int .u32 (un (ror x i))) ∧ ∃ m, w' = w.drewN (k + m) :=
  (rr_i x i (w.drewN (k + n)) h0 h1).mono fun _ _ h => ⟨h.1, n, h.2.symm⟩
theorem u_not (x : UInt32) : bits .xor .u32 IntKind.u32.max (un x) = un (~~~ x) := by
  have h := u_xor 4294967295 x
  have e : (4294967295 : UInt32) ^^^ x = ~~~ x := by
    apply UInt32.toBitVec_inj.1
    show BitVec.allOnes 32 ^^^ x.toBitVec = ~~~ x.toBitVec
    exact BitVec.allOnes_xor
  rw [e] at h
  exact h
theorem u_add4 (a b c d : UInt32) : (un a + un b + un c + un d) % 4294967296 = un (a + b + c + d) := by
  rw [← u_add, ← u_add, ← u_add]; omega
/-! ### Words in a slice -/
def OwnU (w : World) (base : Nat) (v : Value) (l : List UInt32) : Prop := Own w base 133 1 v l.length (l.map u32v)
/-- The slice v, from its block's first cell on, reads as the words l. -/
def RdU (w : World) (v : Value) (l : List UInt32) : Prop :=
  ∃ b c, v = .slice (some ⟨b, 0, none⟩) l.length c ∧ l.length ≤ c ∧ b < w.heap.size ∧ ∀ j (h : j < l.length), w.cell? ⟨b, j, none⟩ = some (.int .u32 (un l[j]))
theorem u32v_one (l : List UInt32) : ∀ v ∈ l.map u32v, v.oneCell' = true := by
  intro v hv
  obtain ⟨b, _, rfl⟩ := List.mem_map.1 hv
  rfl
theorem u32v_cells (l : List UInt32) : ∀ v ∈ l.map u32v, v.cells = #[v] := by
  intro v hv
  obtain ⟨b, _, rfl⟩ := List.mem_map.1 hv
  rfl
theorem info_u32 : (Try.prog.info? 133).map (fun i => (i.zero, i.size, i.bytes)) = some (some (.int .u32 0), 1, 4) := by kernel_rfl
theorem RdU.ext {w w' : World} {v : Value} {l : List UInt32} (h : RdU w v l) (hb : Below w.heap.size w w') : RdU w' v l := by
  obtain ⟨b, c, rfl, h1, h2, h3⟩ := h
  exact ⟨b, c, rfl, h1, Nat.lt_of_lt_of_le h2 hb.size, fun j hj => by rw [hb.cell (p := ⟨b, j, none⟩) h2]; exact h3 j hj⟩
theorem OwnU.rd {w : World} {base : Nat} {v : Value} {l : List UInt32} (h : OwnU w base v l) (h0 : 0 < l.length) : RdU w v l := by
  rcases h.2 with ⟨rfl, h1⟩ | ⟨g, cap, cur, fr, rfl, hb, hg, hf, hnc, hcm, hcs, htk⟩
  · omega
  · refine ⟨g, cap, rfl, hnc, blk_lt hg, fun j hj => ?_⟩
    rw [Own.cell h j (by omega), List.getElem?_map, List.getElem?_eq_getElem hj]
    rfl
theorem OwnU.nil (w : World) (base : Nat) : OwnU w base (.slice none 0 0) [] := Own.nil w base _ 1
theorem OwnU.below {w w' : World} {base : Nat} {v : Value} {l : List UInt32} (h : OwnU w base v l) (hb : Below w.heap.size w w') : OwnU w' base v l := Own.below h hb
theorem OwnU.alloc {w : World} {base : Nat} {v : Value} {l : List UInt32} (h : OwnU w base v l) (o : Obj) : OwnU (w.alloc o) base v l := Own.alloc h o
/-- a literal's row -/
theorem RdU.lit (w : World) (N : Nat) (l : List UInt32) (hN : w.heap.size = N) (m : Nat) (hm : m = l.length) : RdU (w.alloc (.cells (l.map u32v).toArray 133)) (.slice (some ⟨N, 0, none⟩) m m) l := by
  subst hm
  refine ⟨N, l.length, rfl, Nat.le_refl _, by rw [sz_alloc]; omega, fun j hj => ?_⟩
  rw [blk_cell (blk_new w _ _ _ N hN), List.getElem?_toArray, List.getElem?_map, List.getElem?_eq_getElem hj]
  rfl
section
variable {ops : Array Oper} {Q : Exit → Act → World → Prop} {dst : Option Tmp} {ty : TypeId} {pos : String} {aft : Array Edge} {a : Act} {w : World} {K : Act → World → Prop} {base : Nat} {v : Value} {l : List UInt32}
/-- append onto words of the call's own, out of a block that is known whole -/
theorem W_appU (s x : Operand) (g c : Nat) (news : List UInt32) (fr : Nat × Nat) (hown : OwnU w base v l)
    (hp : a.eval s = v ∧ a.eval x = .slice (some ⟨g, 0, none⟩) news.length c ∧ w.heap[g]? = some (.cells (news.map u32v).toArray 133 fr) ∧ l.length + news.length ≤ 1407374883553 ∧ base ≤ w.heap.size)
    (h : ∀ v' w', OwnU w' base v' (l ++ news) → w.grownBy w' v.ownBlock → K (a.put dst v') w') :
    Oper.wp Try.prog ⟨dst, .call { callee := .builtin .append, args := #[s, x], argTypes := #[134, 134] }, ty, pos, aft, none⟩ a w K Q := by
  obtain ⟨i, hi, hz, hs, hb⟩ := info_parts info_u32
  obtain ⟨h1, h2, h3, h4, h5⟩ := hp
  refine W_app _ s x i _ 4 ⟨Try.underlying134, hi, hz, hs, hb, rfl, by omega⟩ h1 hown ⟨g, 0, none⟩ news.length c (news.map u32v) h2 ⟨by simp, ?_, u32v_one _⟩ ⟨by simp only [maxLen]; omega, by omega, h5⟩ ?_
  · intro j u hj
    have hadd : (⟨g, 0, none⟩ : Addr).add j = ⟨g, j, none⟩ := by unfold Addr.add; split <;> simp_all
    rw [hadd, blk_cell h3, List.getElem?_toArray]
    exact hj
  · intro v' w' hown' hg _
    exact h v' w' (by unfold OwnU; rw [List.length_append, List.map_append]; exact hown') hg
/-- a literal of words -/
theorem W_buildU (len : Nat) (xs : List Operand) (news : List UInt32)
    (hp : xs.map a.eval = news.map u32v ∧ len = news.length ∧ 0 < len ∧ len ≤ 2 ^ 24)
    (h : K (a.put dst (.slice (some ⟨w.heap.size, 0, none⟩) len len)) (w.alloc (.cells (news.map u32v).toArray 133))) :
    Oper.wp Try.prog ⟨dst, .buildSlice 134 len (xs.zipIdx.map fun x => (x.2, x.1)).toArray, ty, pos, aft, none⟩ a w K Q :=
  W_build _ _ len xs (news.map u32v) ⟨Try.underlying134, by kernel_rfl, by kernel_rfl⟩ ⟨hp.1, by rw [List.length_map]; exact hp.2.1, hp.2.2.1, hp.2.2.2, u32v_cells _⟩ h
end
def kops : List Operand := K.map fun x => .const (u32v x)
theorem rconst_c (w : World) : Calls Try.prog 82 #[] w fun e w' => ∃ v, e = .returned v ∧ RdU w' v K ∧ Below w.heap.size w w' := by
  go_enter Try.func82, Try.ntmps82
  go_wp2_with ((with_reducible refine wpList_plain rfl fun K hK => W_buildU 64 kops Sha.K ?hq (hK _ _ ?_)); (case hq => exact ⟨by kernel_rfl, rfl, by decide, by decide⟩))
  go_ret
  exact ⟨_, rfl, RdU.lit w _ Sha.K rfl 64 rfl, (Below.refl _ _).alloc (Nat.le_refl _) _⟩
set_option maxHeartbeats 1000000 in
theorem rstep_c (s8 : S8) (k x : UInt32) (w : World) (sv : Value) (h : RdU w sv (ws s8)) :
    Calls Try.prog 85 #[sv, .int .u32 (un k), .int .u32 (un x)] w fun e w' => ∃ v', e = .returned v' ∧ RdU w' v' (ws (Sha.step s8 k x)) ∧ Below w.heap.size w w' := by
  obtain ⟨v0, v1, v2, v3, v4, v5, v6, v7⟩ := s8
  obtain ⟨b, cp, rfl, hcp, hb, hcell⟩ := h
  have c0 : w.cell? ⟨b, 0, none⟩ = some (.int .u32 (un v0)) := hcell 0 (by show 0 < 8; decide)
  have c1 : w.cell? ⟨b, 1, none⟩ = some (.int .u32 (un v1)) := hcell 1 (by show 1 < 8; decide)
  have c2 : w.cell? ⟨b, 2, none⟩ = some (.int .u32 (un v2)) := hcell 2 (by show 2 < 8; decide)
  have c3 : w.cell? ⟨b, 3, none⟩ = some (.int .u32 (un v3)) := hcell 3 (by show 3 < 8; decide)
  have c4 : w.cell? ⟨b, 4, none⟩ = some (.int .u32 (un v4)) := hcell 4 (by show 4 < 8; decide)
  have c5 : w.cell? ⟨b, 5, none⟩ = some (.int .u32 (un v5)) := hcell 5 (by show 5 < 8; decide)
  have c6 : w.cell? ⟨b, 6, none⟩ = some (.int .u32 (un v6)) := hcell 6 (by show 6 < 8; decide)
  have c7 : w.cell? ⟨b, 7, none⟩ = some (.int .u32 (un v7)) := hcell 7 (by show 7 < 8; decide)
  clear hcell
  have A1 := u_xor
  have A2 := u_add
  have A3 := u_and
  have A4 := u_or
  have A5 := u_not
  have hl : (ws ⟨v0, v1, v2, v3, v4, v5, v6, v7⟩).length = 8 := rfl
  rw [hl] at hcp ⊢
  clear hl
  go_enter Try.func85, Try.ntmps85
  go_wp2
  go_quiet ((go_at_call 98; exact rr_q _ _ _ _ (by omega) (by omega)))
  go_wp2
  go_quiet ((go_at_call 98; exact rr_q2 _ _ _ _ _ (by omega) (by omega)))
  simp only [u_add4, u_add]
  go_wp2
  refine region_qd 26 (by kernel_rfl) (by kernel_rfl) ?_
  simp only [List.take_succ_cons, List.take_zero, List.drop_succ_cons, List.drop_zero]
  repeat go_big_quiet_step (fail)
  refine wpQuiet_nil ?_
  intro nr
  go_wp2
  go_ret
  exact ⟨_, rfl, RdU.lit (w.drewN _) w.heap.size (ws (Sha.step ⟨v0, v1, v2, v3, v4, v5, v6, v7⟩ k x)) rfl 8 rfl, (Below.drewN (Below.refl _ _) _).alloc (Nat.le_refl _) _⟩
end Go.Proofs.Ytkdakmddlkgjkaa
