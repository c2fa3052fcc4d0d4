import Derived.Deep.Slices
import Derived.Deep.Fields
import Derived.ChangeSame
import Derived.Test.YtkdakmddlkgjkaaFrame
namespace Go.Proofs.Ytkdakmddlkgjkaa
set_option maxRecDepth 100000
open Go.ChangeShapes Go.WideShapes Go.ChangeAt Go.RowKit Go.Deep
/-! An argument that is a slice of acts of law07. -/
section
variable {H : Type} {enc : TypeId × Value → H} {P : Program} {w : World} {base : Nat} {spare : Nat → Bool} {held : Bool}
theorem open_slice_fields {t e : TypeId} {fs : Array Field} {fuel : Nat} {cs : List Value} {x : DataW H × List MemPlace} (ht : P.underlying t = some (.slice e)) (he : P.underlying e = some (.struct fs))
    (hone : oneCellFields P fs = true) (hC : P.cellsOf e = fs.size) (h : DataW.trod enc P w base spare held fuel t cs = some x) :
    (cs = [.slice none 0 0] ∧ x = (.nil, [])) ∨
    ∃ (a : Addr) (len cap m : Nat) (D : Nat → DataW H) (Pl : Nat → List MemPlace), cs = [.slice (some a) len cap] ∧ base ≤ a.block ∧ len ≤ cap ∧ cap ≤ maxLen ∧ m = (if spare a.block then cap else len) ∧
      x = (.slice ((List.range len).map D) ((List.range (m - len)).map fun j => D (len + j)), MemPlace.row a (m * fs.size) ++ (List.range m).flatMap Pl) ∧
      ∀ i, i < m → ∃ (ys : List (DataW H × List MemPlace)) (n : Nat), D i = .agg (ys.map (·.1)) ∧ Pl i = ys.flatMap (·.2) ∧ ys.length = fs.size ∧
        ∀ (j : Nat) (f : Field), fs[j]? = some f → ∃ (v : Value) (y : DataW H × List MemPlace), w.cell? (a.add (i * fs.size + j)) = some v ∧ ys[j]? = some y ∧ DataW.trod enc P w base spare held n f.type [v] = some y := by
  rcases open_slice ht h with h0 | ⟨a, len, cap, m, n, D, Pl, hcs, hb, hl, hm, hmm, hx, hi⟩
  · exact .inl h0
  · refine .inr ⟨a, len, cap, m, D, Pl, hcs, hb, hl, hm, hmm, by rw [hC] at hx; exact hx, fun i him => ?_⟩
    obtain ⟨cs', hc, ht'⟩ := hi i him
    rw [hC] at hc
    obtain ⟨ys, n', hn', hy, hlen, hyl, hf⟩ := DataW.trod_struct he ht'
    obtain ⟨_, hcl, hat⟩ := World.cells?_some hc
    simp only [Prod.mk.injEq] at hy
    refine ⟨ys, n', hy.1, hy.2, hyl, fun j f hj => ?_⟩
    obtain ⟨ho, hk⟩ := hone_of hone j f hj
    have hjl : j < fs.size := (Array.getElem?_eq_some_iff.1 hj).1
    have hcell := hat j hjl
    have hv : cs'[j]? = some (cs'[j]'(by omega)) := List.getElem?_eq_getElem (by omega)
    have h1 := hf j f hj
    rw [ho, hk] at h1
    have hone' : (cs'.drop j).take 1 = [cs'[j]'(by omega)] := by
      rw [List.drop_eq_getElem_cons (by omega)]
      rfl
    rw [hone'] at h1
    have hys : ys[j]? = some (ys[j]'(by omega)) := List.getElem?_eq_getElem (by omega)
    refine ⟨_, _, ?_, hys, h1.trans hys⟩
    rw [← Go.Deep.add_add, hcell, hv]
end
/-- What a script of acts reads as. -/
def OpsAt (W : World) (v : Value) : Prop :=
  (∃ a c, v = .slice a 0 c) ∨ ∃ (n blk off c : Nat), v = .slice (some ⟨blk, off, none⟩) n c ∧ 0 < n ∧ n ≤ 9223372036854775807 ∧ blk < W.heap.size ∧
    ∀ i, i < n → ∃ (k : Int) (s : List UInt8) (x : Int) (m : Nat), W.cell? ⟨blk, off + i * 4, none⟩ = some (.int .i64 k) ∧ W.cell? ⟨blk, off + i * 4 + 1, none⟩ = some (.string ⟨s.toArray⟩) ∧
      W.cell? ⟨blk, off + i * 4 + 2, none⟩ = some (.int .i64 x) ∧ W.cell? ⟨blk, off + i * 4 + 3, none⟩ = some (.int .u64 (m : Int)) ∧ (-9223372036854775808 ≤ x ∧ x ≤ 9223372036854775807) ∧ m < 18446744073709551616
section
variable {H : Type} {enc : TypeId × Value → H} {W : World}
theorem add_at (b o k : Nat) : (⟨b, o, none⟩ : Addr).add k = ⟨b, o + k, none⟩ := by
  unfold Addr.add
  split
  · rename_i h; subst h; rfl
  · rfl
theorem fr_ops {base : Nat} {v : Value} {d : DataW H} {p : List MemPlace} (hv : Value.okWide Try.prog W .any base 85 v) (h : DataW.Trod enc Try.prog W 0 (fun _ => true) true 85 v d p) : OpsAt W v := by
  obtain ⟨a0, l0, c0, rfl⟩ := okWide_slice Try.underlying85 hv
  obtain ⟨fuel, h⟩ := h
  rcases open_slice_fields Try.underlying85 Try.underlying87 (by kernel_rfl) (by kernel_rfl) h with ⟨hcs, _⟩ | ⟨a, n, c, m, D, Pl, hcs, _, hnc, hcm, hm, _, hi⟩
  · have e : Value.slice a0 l0 c0 = .slice none 0 0 := by simpa [Value.cells] using hcs
    exact .inl ⟨none, 0, e⟩
  · have e : Value.slice a0 l0 c0 = .slice (some a) n c := by simpa [Value.cells] using hcs
    rcases Nat.eq_zero_or_pos n with h0 | hpos
    · subst h0; exact .inl ⟨some a, c, e⟩
    · have hm2 : n ≤ m := by rw [hm]; exact hnc
      have hnone : a = ⟨a.block, a.off, none⟩ := by
        obtain ⟨ys, nn, _, _, _, hf⟩ := hi 0 (by omega)
        obtain ⟨u, y, hc, _, _⟩ := hf 0 _ rfl
        rw [Nat.zero_mul, Nat.zero_add, show a.add 0 = a from rfl] at hc
        obtain ⟨ab, ao, asp⟩ := a
        cases asp with
        | none => rfl
        | some s =>
          unfold World.cell? at hc
          split at hc <;> simp at hc
      obtain ⟨ab, ao, asp⟩ := a
      have has : asp = none := by injection hnone
      subst has
      have hcell : ∀ i, i < n → ∀ j u, W.cell? ((⟨ab, ao, none⟩ : Addr).add (i * 4 + j)) = some u → W.cell? ⟨ab, ao + i * 4 + j, none⟩ = some u := by
        intro i _ j u h
        rw [add_at, ← Nat.add_assoc] at h
        exact h
      have hall : ∀ i, i < n → ∃ (k : Int) (s : List UInt8) (x : Int) (m : Nat), W.cell? ⟨ab, ao + i * 4, none⟩ = some (.int .i64 k) ∧ W.cell? ⟨ab, ao + i * 4 + 1, none⟩ = some (.string ⟨s.toArray⟩) ∧
          W.cell? ⟨ab, ao + i * 4 + 2, none⟩ = some (.int .i64 x) ∧ W.cell? ⟨ab, ao + i * 4 + 3, none⟩ = some (.int .u64 (m : Int)) ∧ (-9223372036854775808 ≤ x ∧ x ≤ 9223372036854775807) ∧ m < 18446744073709551616 := by
        intro i hin
        obtain ⟨ys, nn, _, _, _, hf⟩ := hi i (by omega)
        obtain ⟨u0, y0, hc0, _, t0⟩ := hf 0 _ rfl
        obtain ⟨u1, y1, hc1, _, t1⟩ := hf 1 _ rfl
        obtain ⟨u2, y2, hc2, _, t2⟩ := hf 2 _ rfl
        obtain ⟨u3, y3, hc3, _, t3⟩ := hf 3 _ rfl
        obtain ⟨k, g0, _, _⟩ := DataW.trod_int Try.underlying3 t0
        obtain ⟨s, g1, _, _⟩ := DataW.trod_string Try.underlying9 t1
        obtain ⟨x, g2, _, wx⟩ := DataW.trod_int Try.underlying3 t2
        obtain ⟨m, g3, _, wm⟩ := DataW.trod_int Try.underlying57 t3
        have hx : -9223372036854775808 ≤ x ∧ x ≤ 9223372036854775807 := by simpa [Lit.wf, IntKind.min, IntKind.max, IntKind.signed, IntKind.bits] using wx
        have hm3 : 0 ≤ m ∧ m ≤ 18446744073709551615 := by simpa [Lit.wf, IntKind.min, IntKind.max, IntKind.signed, IntKind.bits] using wm
        obtain ⟨mm, rfl⟩ := Int.eq_ofNat_of_zero_le hm3.1
        simp only [List.cons.injEq, and_true] at g0 g1 g2 g3
        subst g0 g1 g2 g3
        exact ⟨k, s.data.toList, x, mm, hcell i hin 0 _ hc0, hcell i hin 1 _ hc1, hcell i hin 2 _ hc2, hcell i hin 3 _ hc3, hx, by omega⟩
      have hblk : ab < W.heap.size := by
        obtain ⟨k, s, x, m, h0, _⟩ := hall 0 hpos
        exact World.block_lt_of_cell? W ⟨ab, ao + 0 * 4, none⟩ (by rw [h0])
      exact .inr ⟨n, ab, ao, c, e, hpos, by have h1 := hcm; simp only [maxLen] at h1; omega, hblk, hall⟩
end
end Go.Proofs.Ytkdakmddlkgjkaa
