import Derived.Deep.MidRow
import Derived.Test.YtkdakmddlkgjkaaOwnB
namespace Go.Proofs.Ytkdakmddlkgjkaa
set_option maxRecDepth 100000
open Go.RowKit Go.Lib
/-- But for the blocks of M, and new ones, the world is as it was. -/
structure Upd (M : Nat → Prop) (w w' : World) : Prop where
  os : w'.os = w.os
  tape : w'.tape = w.tape
  output : w'.output = w.output
  size : w.heap.size ≤ w'.heap.size
  block : ∀ k, k < w.heap.size → ¬ M k → w'.heap[k]? = w.heap[k]?
theorem Upd.refl (M : Nat → Prop) (w : World) : Upd M w w := ⟨rfl, rfl, rfl, Nat.le_refl _, fun _ _ _ => rfl⟩
theorem Upd.trans {M : Nat → Prop} {a b c : World} (h : Upd M a b) (k : Upd M b c) : Upd M a c :=
  ⟨k.os.trans h.os, k.tape.trans h.tape, k.output.trans h.output, Nat.le_trans h.size k.size, fun i hi hm => (k.block i (Nat.lt_of_lt_of_le hi h.size) hm).trans (h.block i hi hm)⟩
theorem Upd.of {M : Nat → Prop} {w w' : World} (h : Below w.heap.size w w') : Upd M w w' := ⟨h.os, h.tape, h.output, h.size, fun k hk _ => h.block k hk⟩
theorem Upd.ext {M : Nat → Prop} {a w w' : World} (h : Upd M a w) (k : Below w.heap.size w w') : Upd M a w' := h.trans (Upd.of k)
theorem Upd.mono {M M' : Nat → Prop} {w w' : World} (h : Upd M w w') (hm : ∀ k, k < w.heap.size → M k → M' k) : Upd M' w w' := ⟨h.os, h.tape, h.output, h.size, fun k hk hn => h.block k hk (fun hc => hn (hm k hk hc))⟩
theorem Upd.drewN {M : Nat → Prop} {a w : World} (h : Upd M a w) (n : Nat) : Upd M a (w.drewN n) := ⟨h.os, h.tape, h.output, h.size, h.block⟩
theorem Upd.drew {M : Nat → Prop} {a w : World} (h : Upd M a w) : Upd M a w.drew := ⟨h.os, h.tape, h.output, h.size, h.block⟩
theorem Upd.setCell {M : Nat → Prop} {a w : World} (h : Upd M a w) {p : Addr} (hp : M p.block) (u : Value) : Upd M a (w.setCell p u) :=
  h.trans ⟨rfl, rfl, rfl, by simp [World.setCell], fun k _ hk => Below.heap_setCell _ _ _ _ (fun he => hk (he ▸ hp))⟩
theorem Upd.setCells {M : Nat → Prop} {a w : World} (h : Upd M a w) {b : Nat} (hp : M b) (o : Nat) (vs : List Value) : Upd M a (w.setCells b o vs) := by
  obtain ⟨h1, h2, h3, h4⟩ := setCells_rest b vs o w
  exact h.trans ⟨h1, h2, h3, by omega, fun k _ hk => setCells_other b vs o w k (fun he => hk (he ▸ hp))⟩
theorem Upd.alloc {M : Nat → Prop} {a w : World} (h : Upd M a w) (o : Obj) : Upd M a (w.alloc o) := h.ext ((Below.refl _ _).alloc (Nat.le_refl _) o)
theorem Upd.below {M : Nat → Prop} {B : Nat} {w w' : World} (h : Upd M w w') (hB : B ≤ w.heap.size) (hM : ∀ k, M k → B ≤ k) : Below B w w' :=
  ⟨h.os, h.tape, h.output, h.size, fun k hk => h.block k (by omega) (fun hc => by have := hM k hc; omega)⟩

/-- A stretch of a block, written cell by cell. -/
def putArr : Array Value → Nat → List Value → Array Value
  | cur, _, [] => cur
  | cur, o, x :: vs => putArr (cur.setIfInBounds o x) (o + 1) vs
theorem blk_setCells {b : Nat} {t : TypeId} {fr : Nat × Nat} : ∀ (vs : List Value) (o : Nat) (w : World) (cur : Array Value), w.heap[b]? = some (.cells cur t fr) → (w.setCells b o vs).heap[b]? = some (.cells (putArr cur o vs) t fr)
  | [], _, _, _, h => h
  | x :: vs, o, _, _, h => blk_setCells vs (o + 1) _ _ (blk_set h o x)

/-- The slice v reads as the bytes l. -/
def RdB (w : World) (v : Value) (l : List UInt8) : Prop :=
  ∃ a c, v = .slice a l.length c ∧ l.length ≤ c ∧ (a = none → c = 0) ∧
    ∀ ad, a = some ad → ad.spot = none ∧ ad.block < w.heap.size ∧ ∀ j (h : j < l.length), w.cell? ⟨ad.block, ad.off + j, none⟩ = some (b8 l[j])
section
variable {w w' : World} {v : Value} {l : List UInt8}
theorem RdB.keep (h : RdB w v l) (hs : w.heap.size ≤ w'.heap.size) (hk : ∀ k, v.ownBlock = some k → w'.heap[k]? = w.heap[k]?) : RdB w' v l := by
  obtain ⟨a, c, rfl, h2, h3, h4⟩ := h
  refine ⟨a, c, rfl, h2, h3, fun ad had => ?_⟩
  obtain ⟨g1, g2, g3⟩ := h4 ad had
  subst had
  exact ⟨g1, by omega, fun j hj => by rw [World.cell?_of_block (w := w) (a := ⟨ad.block, ad.off + j, none⟩) (hk ad.block rfl)]; exact g3 j hj⟩
theorem RdB.ext (h : RdB w v l) (hb : Below w.heap.size w w') : RdB w' v l := by
  refine h.keep hb.size fun k hk => hb.block k ?_
  obtain ⟨a, c, rfl, h2, h3, h4⟩ := h
  cases a with
  | none => simp [Value.ownBlock] at hk
  | some ad => simp only [Value.ownBlock, Option.some.injEq] at hk; subst hk; exact (h4 ad rfl).2.1
theorem RdB.drewN (h : RdB w v l) (n : Nat) : RdB (w.drewN n) v l := h.keep (Nat.le_refl _) fun _ _ => rfl
theorem RdB.drew (h : RdB w v l) : RdB w.drew v l := h.keep (Nat.le_refl _) fun _ _ => rfl
theorem RdB.lt (h : RdB w v l) : ∀ k, v.ownBlock = some k → k < w.heap.size := by
  intro k hk
  obtain ⟨a, c, rfl, h2, h3, h4⟩ := h
  cases a with
  | none => simp [Value.ownBlock] at hk
  | some ad => simp only [Value.ownBlock, Option.some.injEq] at hk; subst hk; exact (h4 ad rfl).2.1
theorem RdB.upd {M : Nat → Prop} (h : RdB w v l) (hu : Upd M w w') (hv : ∀ k, v.ownBlock = some k → ¬ M k) : RdB w' v l :=
  h.keep hu.size fun k hk => hu.block k (h.lt k hk) (hv k hk)
theorem RdB.nil (w : World) : RdB w (.slice none 0 0) [] := ⟨none, 0, rfl, Nat.le_refl _, fun _ => rfl, fun ad h => by cases h⟩
theorem OwnB.rd {base : Nat} (h : OwnB w base v l) : RdB w v l := by
  rcases h.2 with ⟨rfl, h0⟩ | ⟨g, cap, cur, fr, rfl, hb, hg, hf, hnc, hcm, hcs, htk⟩
  · have : l = [] := List.eq_nil_of_length_eq_zero h0
    subst this
    exact RdB.nil w
  · refine ⟨_, cap, rfl, hnc, fun h => (by cases h), fun ad had => ?_⟩
    cases had
    refine ⟨rfl, blk_lt hg, fun j hj => ?_⟩
    rw [Nat.zero_add, Own.cell h j (by omega), List.getElem?_map, List.getElem?_eq_getElem hj]
    rfl
/-- string(v) -/
theorem RdB.strof (h : RdB w v l) (src : TypeId) (hs : Try.prog.underlying src = some (.slice 5)) : ∀ d, Try.prog.underlying d = some .string → (convert src d v).run Try.prog w = .ok (.string ⟨l.toArray⟩) w := by
  intro d hd
  obtain ⟨a, c, rfl, h2, h3, h4⟩ := h
  cases a with
  | none =>
    have : l = [] := List.eq_nil_of_length_eq_zero (by have := h3 rfl; omega)
    subst this
    exact run_convert_bytes_nil w src 5 hs Try.underlying5 0 c d hd
  | some ad =>
    obtain ⟨b, off, spot⟩ := ad
    obtain ⟨g1, g2, g3⟩ := h4 _ rfl
    simp only at g1
    subst g1
    have := run_convert_bytes_arg (P := Try.prog) w src 5 hs Try.underlying5 b off l.length c (l.map fun b => (b.toNat : Int)) (by simp) (fun i hi => by
      rw [g3 i hi, List.getD_eq_getElem?_getD, List.getElem?_map, List.getElem?_eq_getElem hi]; rfl) d hd
    rw [this]
    congr 2
    unfold strOfNums
    rw [List.map_map]
    congr 1
    have : ((fun n : Int => UInt8.ofNat n.toNat) ∘ fun b : UInt8 => (b.toNat : Int)) = id := by
      funext b; simp
    rw [this, List.map_id]
/-- v[:k] -/
theorem RdB.take {a : Option Addr} {n c : Nat} (h : RdB w (.slice a n c) l) (k : Nat) (hk : k ≤ l.length) : RdB w (.slice a k c) (l.take k) := by
  obtain ⟨a', c', he, h2, h3, h4⟩ := h
  cases he
  have hl : (l.take k).length = k := by simp; omega
  refine ⟨a, c, by rw [hl], by omega, h3, fun ad had => ?_⟩
  obtain ⟨g1, g2, g3⟩ := h4 ad had
  refine ⟨g1, g2, fun j hj => ?_⟩
  rw [List.getElem_take]
  exact g3 j (by omega)
/-- v[k:] -/
theorem RdB.from {a : Option Addr} {n c : Nat} (h : RdB w (.slice a n c) l) (k : Nat) (hk : k ≤ l.length) (kl : IntKind) :
    ∃ v', (Instr.sliceAt 38 (.slice a n c) (some (.int kl k)) none none).run Try.prog w = .ok v' w ∧ RdB w v' (l.drop k) ∧ (∀ b, v'.ownBlock = some b → (Value.slice a n c).ownBlock = some b) := by
  obtain ⟨a', c', he, h2, h3, h4⟩ := h
  cases he
  obtain ⟨i, hi, hz, hs, hb⟩ := info_parts info_u8
  refine ⟨.slice (if c = k then a else a.map (·.add (k * 1))) (l.length - k) (c - k), ?_, ?_, ?_⟩
  · have hb : (Instr.sliceBounds true l.length c (some (.int kl k)) none none).run Try.prog w = .ok (k, l.length, c) w := by
      have := run_sliceBound (P := Try.prog) (w := w) kl k l.length .sliceB (by omega) (by omega)
      simp [Instr.sliceBounds, this]
    have hu := run_underlying (P := Try.prog) (t := 38) Try.underlying38
    simp only [Instr.sliceAt]
    simp [Instr.slice, hu, hb, sizeOf, typeInfo, hi, hs]
  · have hl : (l.drop k).length = l.length - k := by simp
    refine ⟨_, c - k, by rw [hl], by omega, ?_, ?_⟩
    · intro hn
      split at hn
      · omega
      · cases a with
        | none => have := h3 rfl; omega
        | some ad => cases hn
    · intro ad had
      by_cases hc : c = k
      · rw [if_pos hc] at had
        obtain ⟨g1, g2, g3⟩ := h4 ad had
        exact ⟨g1, g2, fun j hj => by omega⟩
      · rw [if_neg hc] at had
        cases a with
        | none => cases had
        | some x =>
          cases had
          obtain ⟨g1, g2, g3⟩ := h4 x rfl
          obtain ⟨b, off, spot⟩ := x
          simp only at g1
          subst g1
          have hadd : (⟨b, off, none⟩ : Addr).add (k * 1) = ⟨b, off + k, none⟩ := by rw [Nat.mul_one]; unfold Addr.add; split <;> simp_all
          dsimp only
          rw [hadd]
          refine ⟨rfl, g2, fun j hj => ?_⟩
          rw [List.getElem_drop, show off + k + j = off + (k + j) by omega]
          exact g3 (k + j) (by omega)
  · intro b hb
    by_cases hc : c = k
    · rw [if_pos hc] at hb
      cases a with
      | none => simp [Value.ownBlock] at hb
      | some x => simpa [Value.ownBlock] using hb
    · rw [if_neg hc] at hb
      cases a with
      | none => simp [Value.ownBlock] at hb
      | some x =>
        simp only [Option.map_some, Value.ownBlock, Option.some.injEq] at hb ⊢
        rw [← hb]; unfold Addr.add; split <;> rfl
/-- append(v[:len(v):len(v)], s...) -/
theorem RdB.app {a : Option Addr} {n c : Nat} (h : RdB w (.slice a n c) l) (s : ByteArray) (hb : l.length + s.size ≤ 140737488355328) (ty : TypeId) :
    ∃ v' w', (Builtin.append_ #[38, 9] ty #[.slice a n n, .string s]).run Try.prog w = .ok v' w' ∧ RdB w' v' (l ++ s.data.toList) ∧ Below w.heap.size w w' ∧ (∀ k, v'.ownBlock = some k → (Value.slice a n n).ownBlock = some k ∨ k = w.heap.size) := by
  obtain ⟨i, hi, hz, hs, hby⟩ := info_parts info_u8
  obtain ⟨a', c', he, h2, h3, h4⟩ := h
  cases he
  by_cases h0 : s.size = 0
  · have hnil : s.data.toList = [] := List.eq_nil_of_length_eq_zero (by simpa using h0)
    have hcells : strCells s = [] := List.eq_nil_of_length_eq_zero (by rw [strCells_length]; exact h0)
    have hfc := run_firstCells_string (P := Try.prog) w 1 s
    refine ⟨.slice a l.length l.length, w, ?_, ?_, Below.refl _ _, fun k hk => .inl hk⟩
    · have hf2 : (Builtin.firstCells 1 0 (.string s)).run Try.prog w = .ok #[] w := by
        have := hfc
        rw [h0, hcells] at this
        exact this
      cases a with
      | none => simp [Builtin.append_, run_underlying Try.underlying38, run_underlying Try.underlying9, sizeOf, typeInfo, hi, hs, Builtin.lenOf, h0, hf2]
      | some ad => simp [Builtin.append_, run_underlying Try.underlying38, run_underlying Try.underlying9, sizeOf, typeInfo, hi, hs, Builtin.lenOf, h0, hf2, storeCells]
    · rw [hnil, List.append_nil]
      exact ⟨a, l.length, rfl, Nat.le_refl _, fun hn => by have := h3 hn; omega, h4⟩
  · have hlen : (l ++ s.data.toList).length = l.length + s.size := by simp
    have key : ∀ (olds : List Value) (C : Nat) (z : List Value), olds = l.map b8 → l.length + s.size ≤ C → RdB (w.drew.alloc (.cells (olds.toArray ++ (strCells s).toArray ++ z.toArray) 5)) (.slice (some ⟨w.heap.size, 0, none⟩) (l.length + s.size) C) (l ++ s.data.toList) := by
      intro olds C z ho hC
      refine ⟨some ⟨w.heap.size, 0, none⟩, C, by rw [hlen], by omega, fun hn => (by cases hn), fun ad had => ?_⟩
      cases had
      refine ⟨rfl, by rw [sz_alloc]; exact Nat.lt_succ_self _, fun j hj => ?_⟩
      rw [Nat.zero_add, blk_cell (blk_new w.drew _ _ _ w.heap.size rfl), ho, strCells_b8]
      have e : ((l.map b8).toArray ++ (s.data.toList.map b8).toArray ++ z.toArray) = ((l ++ s.data.toList).map b8 ++ z).toArray := by simp
      rw [e, List.getElem?_toArray, List.getElem?_append_left (by simpa using hj), List.getElem?_map, List.getElem?_eq_getElem hj]
      rfl
    cases a with
    | none =>
      have hl0 : l = [] := List.eq_nil_of_length_eq_zero (by have := h3 rfl; omega)
      subst hl0
      have hr := run_append_nil_string (P := Try.prog) w 38 9 ty 5 i (.int .u8 0) Try.underlying38 Try.underlying9 hi hz s (by omega) (by simp only [List.length_nil] at hb; omega) (by rw [hby]; simp only [List.length_nil] at hb; omega)
      refine ⟨_, _, hr, ?_, ⟨rfl, rfl, rfl, by rw [sz_alloc]; exact Nat.le_succ _, fun k hk => Below.heap_alloc w.drew _ k hk⟩, fun k hk => .inr (by simpa [Value.ownBlock] using hk.symm)⟩
      have := key [] (grownCap w s.size 0 5) (Builtin.zeroCells (Value.int IntKind.u8 0).cells (grownCap w s.size 0 5 - s.size)).toList rfl (by have := grownCap_ge w s.size 0 5; simpa using this)
      have e : (strCells s).toArray = s.data.map fun b => Value.int .u8 b.toNat := by rw [strCells, ← Array.toList_map, Array.toArray_toList]
      rw [e] at this
      simpa using this
    | some ad =>
      obtain ⟨g1, g2, g3⟩ := h4 ad rfl
      have hr := run_append_grow_string (P := Try.prog) w 38 9 ty 5 i (.int .u8 0) Try.underlying38 Try.underlying9 hi hz ad l.length l.length (l.map b8) (by rw [hs]; simp) (fun j u hj => by
          have hjl : j < l.length := by
            rcases Nat.lt_or_ge j l.length with h | h
            · exact h
            · rw [List.getElem?_eq_none (by simpa using h)] at hj; cases hj
          obtain ⟨b, off, spot⟩ := ad
          simp only at g1
          subst g1
          have hadd : (⟨b, off, none⟩ : Addr).add j = ⟨b, off + j, none⟩ := by unfold Addr.add; split <;> simp_all
          rw [hadd, g3 j hjl]
          rw [List.getElem?_map, List.getElem?_eq_getElem hjl] at hj
          exact hj) s (by omega) (by omega) (by rw [hby]; exact growslice_fits (by omega) (by omega))
      refine ⟨_, _, hr, ?_, ⟨rfl, rfl, rfl, by rw [sz_alloc]; exact Nat.le_succ _, fun k hk => Below.heap_alloc w.drew _ k hk⟩, fun k hk => .inr (by simpa [Value.ownBlock] using hk.symm)⟩
      have := key (l.map b8) (grownCap w (l.length + s.size) l.length 5) (Builtin.zeroCells (Value.int IntKind.u8 0).cells (grownCap w (l.length + s.size) l.length 5 - (l.length + s.size))).toList rfl (grownCap_ge _ _ _ _)
      simpa using this
end
end Go.Proofs.Ytkdakmddlkgjkaa
