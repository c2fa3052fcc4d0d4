import Derived.Deep.Slices
import Derived.Deep.Fields
import Derived.ChangeSame
import Derived.Test.YtkdakmddlkgjkaaFrame
namespace Go.Proofs.Ytkdakmddlkgjkaa
set_option maxRecDepth 100000
open Go.ChangeShapes Go.WideShapes Go.ChangeAt Go.RowKit Go.Deep
/-! An argument that is a slice of acts of law05: each a number, an entry, a number, a text, a mask. -/
/-- The cells of an act at a place. -/
def Act5 (W : World) (blk o : Nat) (kd ek en es ez : Int) (su : List UInt8) (x : Int) (s : List UInt8) (m : Nat) : Prop :=
  W.cell? ⟨blk, o, none⟩ = some (.int .i64 kd) ∧ W.cell? ⟨blk, o + 1, none⟩ = some (.int .i64 ek) ∧ W.cell? ⟨blk, o + 2, none⟩ = some (.int .i64 en) ∧ W.cell? ⟨blk, o + 3, none⟩ = some (.int .i64 es) ∧ W.cell? ⟨blk, o + 4, none⟩ = some (.int .i64 ez) ∧
  W.cell? ⟨blk, o + 5, none⟩ = some (.string ⟨su.toArray⟩) ∧ W.cell? ⟨blk, o + 6, none⟩ = some (.int .i64 x) ∧ W.cell? ⟨blk, o + 7, none⟩ = some (.string ⟨s.toArray⟩) ∧ W.cell? ⟨blk, o + 8, none⟩ = some (.int .u64 (m : Int))
/-- What a script of acts reads as. -/
def Ops5 (W : World) (v : Value) : Prop :=
  ∃ (av : Option Addr) (n c : Nat), v = .slice av n c ∧ n ≤ 9223372036854775807 ∧ ∀ i, i < n → ∃ (blk off : Nat) (kd ek en es ez : Int) (su : List UInt8) (x : Int) (s : List UInt8) (m : Nat), av = some ⟨blk, off, none⟩ ∧ blk < W.heap.size ∧
    Act5 W blk (off + i * 9) kd ek en es ez su x s m ∧ (-9223372036854775808 ≤ x ∧ x ≤ 9223372036854775807) ∧ m < 18446744073709551616
section
variable {H : Type} {enc : TypeId × Value → H} {W : World}
theorem add_at5 (b o k : Nat) : (⟨b, o, none⟩ : Addr).add k = ⟨b, o + k, none⟩ := by
  unfold Addr.add
  split
  · rename_i h; subst h; rfl
  · rfl
theorem fr_ops5 {base : Nat} {v : Value} {d : DataW H} {p : List MemPlace} (hv : Value.okWide Try.prog W .any base 53 v) (h : DataW.Trod enc Try.prog W 0 (fun _ => true) true 53 v d p) : Ops5 W v := by
  obtain ⟨a0, l0, c0, rfl⟩ := okWide_slice Try.underlying53 hv
  obtain ⟨fuel, h⟩ := h
  have hC : Try.prog.cellsOf 59 = 9 := by kernel_rfl
  have hC2 : Try.prog.cellsOf 23 = 5 := by kernel_rfl
  have hCi : Try.prog.cellsOf 3 = 1 := by kernel_rfl
  have hCs : Try.prog.cellsOf 9 = 1 := by kernel_rfl
  have hCu : Try.prog.cellsOf 57 = 1 := by kernel_rfl
  rcases open_slice Try.underlying53 h with ⟨hcs, _⟩ | ⟨a, n, c, m, nn, D, Pl, hcs, _, hnc, hcm, hm, _, hi⟩
  · have e : Value.slice a0 l0 c0 = .slice none 0 0 := by simpa [Value.cells] using hcs
    exact ⟨none, 0, 0, e, by omega, fun i hi => by omega⟩
  · have e : Value.slice a0 l0 c0 = .slice (some a) n c := by simpa [Value.cells] using hcs
    have hm2 : n ≤ m := by rw [hm]; exact hnc
    refine ⟨some a, n, c, e, by have h1 := hcm; simp only [maxLen] at h1; omega, fun i hin => ?_⟩
    obtain ⟨cs', hc, ht'⟩ := hi i (by omega)
    rw [hC] at hc
    obtain ⟨ys, n', _, _, hlen, hyl, hf⟩ := DataW.trod_struct Try.underlying59 ht'
    obtain ⟨_, _, hat⟩ := World.cells?_some hc
    rw [hC] at hlen
    match cs', hlen with
    | [q0, q1, q2, q3, q4, q5, q6, q7, q8], _ =>
      have g0 := hf 0 _ rfl
      have g1 := hf 1 _ rfl
      have g2 := hf 2 _ rfl
      have g3 := hf 3 _ rfl
      have g4 := hf 4 _ rfl
      match ys, hyl with
      | [y0, y1, y2, y3, y4], _ =>
        have t0 : DataW.trod enc Try.prog W 0 (fun _ => true) true n' 3 [q0] = some y0 := by change DataW.trod enc Try.prog W 0 (fun _ => true) true n' 3 ((([q0, q1, q2, q3, q4, q5, q6, q7, q8] : List Value).drop 0).take (Try.prog.cellsOf 3)) = some y0 at g0; rw [hCi] at g0; exact g0
        have t1 : DataW.trod enc Try.prog W 0 (fun _ => true) true n' 23 [q1, q2, q3, q4, q5] = some y1 := by change DataW.trod enc Try.prog W 0 (fun _ => true) true n' 23 ((([q0, q1, q2, q3, q4, q5, q6, q7, q8] : List Value).drop 1).take (Try.prog.cellsOf 23)) = some y1 at g1; rw [hC2] at g1; exact g1
        have t2 : DataW.trod enc Try.prog W 0 (fun _ => true) true n' 3 [q6] = some y2 := by change DataW.trod enc Try.prog W 0 (fun _ => true) true n' 3 ((([q0, q1, q2, q3, q4, q5, q6, q7, q8] : List Value).drop 6).take (Try.prog.cellsOf 3)) = some y2 at g2; rw [hCi] at g2; exact g2
        have t3 : DataW.trod enc Try.prog W 0 (fun _ => true) true n' 9 [q7] = some y3 := by change DataW.trod enc Try.prog W 0 (fun _ => true) true n' 9 ((([q0, q1, q2, q3, q4, q5, q6, q7, q8] : List Value).drop 7).take (Try.prog.cellsOf 9)) = some y3 at g3; rw [hCs] at g3; exact g3
        have t4 : DataW.trod enc Try.prog W 0 (fun _ => true) true n' 57 [q8] = some y4 := by change DataW.trod enc Try.prog W 0 (fun _ => true) true n' 57 ((([q0, q1, q2, q3, q4, q5, q6, q7, q8] : List Value).drop 8).take (Try.prog.cellsOf 57)) = some y4 at g4; rw [hCu] at g4; exact g4
        obtain ⟨zs, n'', _, _, _, hzl, hz⟩ := DataW.trod_struct Try.underlying23 t1
        have k0 := hz 0 _ rfl
        have k1 := hz 1 _ rfl
        have k2 := hz 2 _ rfl
        have k3 := hz 3 _ rfl
        have k4 := hz 4 _ rfl
        match zs, hzl with
        | [z0, z1, z2, z3, z4], _ =>
          have s0 : DataW.trod enc Try.prog W 0 (fun _ => true) true n'' 3 [q1] = some z0 := by change DataW.trod enc Try.prog W 0 (fun _ => true) true n'' 3 ((([q1, q2, q3, q4, q5] : List Value).drop 0).take (Try.prog.cellsOf 3)) = some z0 at k0; rw [hCi] at k0; exact k0
          have s1 : DataW.trod enc Try.prog W 0 (fun _ => true) true n'' 3 [q2] = some z1 := by change DataW.trod enc Try.prog W 0 (fun _ => true) true n'' 3 ((([q1, q2, q3, q4, q5] : List Value).drop 1).take (Try.prog.cellsOf 3)) = some z1 at k1; rw [hCi] at k1; exact k1
          have s2 : DataW.trod enc Try.prog W 0 (fun _ => true) true n'' 3 [q3] = some z2 := by change DataW.trod enc Try.prog W 0 (fun _ => true) true n'' 3 ((([q1, q2, q3, q4, q5] : List Value).drop 2).take (Try.prog.cellsOf 3)) = some z2 at k2; rw [hCi] at k2; exact k2
          have s3 : DataW.trod enc Try.prog W 0 (fun _ => true) true n'' 3 [q4] = some z3 := by change DataW.trod enc Try.prog W 0 (fun _ => true) true n'' 3 ((([q1, q2, q3, q4, q5] : List Value).drop 3).take (Try.prog.cellsOf 3)) = some z3 at k3; rw [hCi] at k3; exact k3
          have s4 : DataW.trod enc Try.prog W 0 (fun _ => true) true n'' 9 [q5] = some z4 := by change DataW.trod enc Try.prog W 0 (fun _ => true) true n'' 9 ((([q1, q2, q3, q4, q5] : List Value).drop 4).take (Try.prog.cellsOf 9)) = some z4 at k4; rw [hCs] at k4; exact k4
          obtain ⟨kd, e0, _, _⟩ := DataW.trod_int Try.underlying3 t0
          obtain ⟨x, e6, _, wx⟩ := DataW.trod_int Try.underlying3 t2
          obtain ⟨s, e7, _, _⟩ := DataW.trod_string Try.underlying9 t3
          obtain ⟨mm, e8, _, wm⟩ := DataW.trod_int Try.underlying57 t4
          obtain ⟨ek, e1, _, _⟩ := DataW.trod_int Try.underlying3 s0
          obtain ⟨en, e2, _, _⟩ := DataW.trod_int Try.underlying3 s1
          obtain ⟨es, e3, _, _⟩ := DataW.trod_int Try.underlying3 s2
          obtain ⟨ez, e4, _, _⟩ := DataW.trod_int Try.underlying3 s3
          obtain ⟨su, e5, _, _⟩ := DataW.trod_string Try.underlying9 s4
          have hx : -9223372036854775808 ≤ x ∧ x ≤ 9223372036854775807 := by simpa [Lit.wf, IntKind.min, IntKind.max, IntKind.signed, IntKind.bits] using wx
          have hm3 : 0 ≤ mm ∧ mm ≤ 18446744073709551615 := by simpa [Lit.wf, IntKind.min, IntKind.max, IntKind.signed, IntKind.bits] using wm
          obtain ⟨mm, rfl⟩ := Int.eq_ofNat_of_zero_le hm3.1
          simp only [List.cons.injEq, and_true] at e0 e1 e2 e3 e4 e5 e6 e7 e8
          subst e0 e1 e2 e3 e4 e5 e6 e7 e8
          obtain ⟨ab, ao, asp⟩ := a
          have hnone : asp = none := by
            obtain ⟨cs0, hc0, _⟩ := hi 0 (by omega)
            rw [hC, Nat.zero_mul] at hc0
            obtain ⟨_, hl0, hat0⟩ := World.cells?_some hc0
            have h1 := hat0 0 (by omega)
            have h2 : (⟨ab, ao, asp⟩ : Addr).add 0 = ⟨ab, ao, asp⟩ := rfl
            rw [h2, h2] at h1
            cases asp with
            | none => rfl
            | some s0 =>
              have h3 : cs0[0]? ≠ none := by rw [List.getElem?_eq_getElem (by omega)]; simp
              rw [← h1] at h3
              unfold World.cell? at h3
              split at h3 <;> simp at h3
          subst hnone
          have hcell : ∀ j u, j < 9 → [Value.int .i64 kd, .int .i64 ek, .int .i64 en, .int .i64 es, .int .i64 ez, .string su, .int .i64 x, .string s, .int .u64 (mm : Int)][j]? = some u → W.cell? ⟨ab, ao + i * 9 + j, none⟩ = some u := by
            intro j u hj h
            have h1 := hat j hj
            rw [add_at5, add_at5, h] at h1
            exact h1
          refine ⟨ab, ao, kd, ek, en, es, ez, su.data.toList, x, s.data.toList, mm, rfl, World.block_lt_of_cell? W ⟨ab, ao + i * 9, none⟩ (hcell 0 _ (by decide) rfl), ⟨hcell 0 _ (by decide) rfl, hcell 1 _ (by decide) rfl, hcell 2 _ (by decide) rfl, hcell 3 _ (by decide) rfl, hcell 4 _ (by decide) rfl, hcell 5 _ (by decide) rfl, hcell 6 _ (by decide) rfl, hcell 7 _ (by decide) rfl, hcell 8 _ (by decide) rfl⟩, hx, by omega⟩
end
end Go.Proofs.Ytkdakmddlkgjkaa
