import Derived.Test.YtkdakmddlkgjkaaPl
namespace Go.Proofs.Ytkdakmddlkgjkaa
set_option maxRecDepth 100000
/-! Plain: what a journal holds behind so many entries. -/
/-- The entries, over what the blocks say. -/
def scanP (p : Nat → Option En) : Nat → List En
  | 0 => []
  | k + 1 => match p k with
    | some e => if e.n % 8 = k then ins e (scanP p k) else scanP p k
    | none => scanP p k
theorem scan_P (D : Ds) : ∀ k, scan D k = scanP (fun j => parse (D.get j)) k
  | 0 => rfl
  | k + 1 => by rw [scan, scanP, scan_P D k]; rfl
theorem scanP_congr {p q : Nat → Option En} : ∀ k, (∀ j, j < k → p j = q j) → scanP p k = scanP q k
  | 0, _ => rfl
  | k + 1, h => by rw [scanP, scanP, h k (Nat.lt_succ_self k), scanP_congr k fun j hj => h j (by omega)]
def insN (a : Nat) : List Nat → List Nat
  | [] => [a]
  | x :: r => if a < x then a :: x :: r else x :: insN a r
def scanN (q : Nat → Option Nat) : Nat → List Nat
  | 0 => []
  | k + 1 => match q k with
    | some a => if a % 8 = k then insN a (scanN q k) else scanN q k
    | none => scanN q k
theorem ins_map (f : Nat → En) (hf : ∀ a, (f a).n = (a : Int)) (a : Nat) : ∀ l : List Nat, ins (f a) (l.map f) = (insN a l).map f
  | [] => rfl
  | x :: r => by
    rw [List.map_cons, ins, insN]
    by_cases h : a < x
    · rw [if_pos (by rw [hf, hf]; omega), if_pos h]; rfl
    · rw [if_neg (by rw [hf, hf]; omega), if_neg h, ins_map f hf a r]; rfl
theorem scanP_map (f : Nat → En) (hf : ∀ a, (f a).n = (a : Int)) (q : Nat → Option Nat) : ∀ k, scanP (fun j => (q j).map f) k = (scanN q k).map f
  | 0 => rfl
  | k + 1 => by
    rw [scanP, scanN, scanP_map f hf q k]
    cases hq : q k with
    | none => rfl
    | some a =>
      simp only [Option.map_some]
      by_cases h : a % 8 = k
      · rw [if_pos (by rw [hf]; omega), if_pos h, ins_map f hf]
      · rw [if_neg (by rw [hf]; omega), if_neg h]
/-- The number in a block behind so many entries. -/
def qI : Nat → Nat → Option Nat
  | 0, _ => none
  | i + 1, j => if j = (i + 1) % 8 then some (i + 1) else qI i j
def rowN (i : Nat) : List Nat := (List.range (min i 8)).map fun j => i - min i 8 + 1 + j
theorem row_N : ∀ i, i < 41 → scanN (qI i) 8 = rowN i := by decide +kernel
theorem rowN_last : ∀ i, i < 41 → (rowN i).getLast? = if i = 0 then none else some i := by decide +kernel
def entR (c : UInt8) (a : Nat) : En := ⟨1 + (((a - 1) % 3 : Nat) : Int), (a : Int), (((a - 1) % 3 : Nat) : Int), ((a - 1 : Nat) : Int), List.replicate 32 c⟩
theorem entR_right (c : UInt8) (a : Nat) (h1 : 1 ≤ a) (h2 : a ≤ 100) : (entR c a).right = true := by
  refine decide_eq_true ⟨?_, ?_, ?_, ?_, ?_, ?_, ?_, ?_, ?_⟩ <;> simp only [entR, List.length_replicate] <;> omega
structure RowSt (c : UInt8) (D : Ds) (i : Nat) : Prop where
  off : D.off = false
  on : D.on = false
  W : D.W = []
  len : D.L.length = 16
  get : ∀ j, j < 8 → parse (D.L.getD j []) = (qI i j).map (entR c)
  ops : D.ops = 2 * i
  gh : D.gh = i
section
variable {c : UInt8} {D : Ds} {i : Nat}
theorem RowSt.scan (h : RowSt c D i) (hi : i < 41) : scan D 8 = (rowN i).map (entR c) := by
  rw [scan_P, scanP_congr (q := fun j => (qI i j).map (entR c)) 8 ?_, scanP_map (entR c) (fun a => rfl), row_N i hi]
  intro j hj
  rw [← h.get j hj]
  unfold Ds.get
  rw [h.W]; rfl
theorem RowSt.newest (h : RowSt c D i) (hi : i < 41) : newest D = (i : Int) := by
  unfold Go.Proofs.Ytkdakmddlkgjkaa.newest
  rw [h.scan hi, List.getLast?_map, rowN_last i hi]
  by_cases h0 : i = 0
  · rw [if_pos h0, h0]; rfl
  · rw [if_neg h0]; rfl
theorem parse_none_len {s : List UInt8} (h : s.length ≠ 64) : parse s = none := by unfold parse; rw [if_neg fun hc => h hc.1]
theorem RowSt.step (h : RowSt c D i) (hi : i < 40) : ∃ D', app D ⟨1 + ((i % 3 : Nat) : Int), 0, ((i % 3 : Nat) : Int), (i : Int), List.replicate 32 c⟩ = (0, entR c (i + 1), D') ∧ RowSt c D' (i + 1) := by
  obtain ⟨L, W, off, ops, on, aft, mask, gh⟩ := D
  have hn := h.newest (by omega)
  obtain ⟨h1, h2, h3, h4, h5, h6, h7⟩ := h
  simp only at h1 h2 h3 h4 h5 h6 h7
  have h7' := h7.symm
  subst h7'
  subst h1 h2 h3 h6
  have hr := entR_right c (i + 1) (by omega) (by omega)
  have hbl := blk_len _ hr
  obtain ⟨X, hX⟩ : ∃ X, (entR c (i + 1)).blk = X := ⟨_, rfl⟩
  rw [hX] at hbl
  have hx : ({ k := 1 + ((i % 3 : Nat) : Int), n := ((i : Int) + 1), sl := ((i % 3 : Nat) : Int), sz := (i : Int), sum := List.replicate 32 c } : En) = entR c (i + 1) := by
    simp [entR]
  have hmod : ((i : Int) + 1) % 8 = (((i + 1) % 8 : Nat) : Int) := by omega
  refine ⟨⟨L.set ((i + 1) % 8) X, [], false, 2 * i + 1 + 1, false, aft, mask, i + 1⟩, ?_, ?_⟩
  · unfold app
    rw [if_neg (show ¬ (false = true) by decide), if_neg (by rw [hn]; omega)]
    simp only [hn, hx, hr, if_true, hX]
    rw [hmod]
    have hw : (Ds.mk L [] false (2 * i) false aft mask i).write (((i + 1) % 8 : Nat) : Int) X = (0, ⟨L, [((i + 1) % 8, X)], false, 2 * i + 1, false, aft, mask, i + 1⟩) := by
      unfold Ds.write
      rw [if_neg (show ¬ (false = true) by decide), if_pos ⟨by omega, by show _ < (L.length : Int); omega, hbl⟩]
      have ht : (((i : Int) + 1) % 8).toNat = (i + 1) % 8 := by omega
      simp [Ds.put, Ds.cut, ht]
    rw [hw]
    simp [Ds.sync, Ds.cut, Ds.settle, fl]
  · refine ⟨rfl, rfl, rfl, by simpa using h4, ?_, by show 2 * i + 1 + 1 = 2 * (i + 1); omega, rfl⟩
    intro j hj
    show parse ((L.set ((i + 1) % 8) X).getD j []) = (qI (i + 1) j).map (entR c)
    rw [List.getD_eq_getElem?_getD, List.getElem?_set, qI]
    by_cases e : (i + 1) % 8 = j
    · subst e
      rw [if_pos rfl, if_pos (by omega), if_pos rfl]
      show parse X = some (entR c (i + 1))
      rw [← hX]; exact parse_blk _ hr
    · rw [if_neg e, if_neg fun h => e h.symm, ← h5 j hj, List.getD_eq_getElem?_getD]
end
theorem row_zero (c : UInt8) : RowSt c ⟨List.replicate 16 (List.replicate 64 0), [], false, 0, false, 0, 0, 0⟩ 0 := by
  refine ⟨rfl, rfl, rfl, rfl, ?_, rfl, rfl⟩
  intro j hj
  have e : (List.replicate 16 (List.replicate 64 (0 : UInt8))).getD j [] = List.replicate 64 0 := by
    rw [List.getD_eq_getElem?_getD, List.getElem?_replicate, if_pos (by omega)]; rfl
  show parse ((List.replicate 16 (List.replicate 64 (0 : UInt8))).getD j []) = none
  rw [e]
  decide +kernel
end Go.Proofs.Ytkdakmddlkgjkaa
