import Derived.Test.YtkdakmddlkgjkaaPrp
import Derived.Test.YtkdakmddlkgjkaaRowP
open Go.RowKit Go.Lib
namespace Go.Proofs.Ytkdakmddlkgjkaa
set_option maxRecDepth 100000
open Sha
/-! Plain: the journal's newest entry; what a write, a sync and an append leave, whatever fails. -/
/-! ### the entries of the blocks -/
theorem ins_iff (e x : En) : ∀ l : List En, x ∈ ins e l ↔ x = e ∨ x ∈ l
  | [] => by simp [ins]
  | y :: r => by
    rw [ins]
    split
    · simp
    · rw [List.mem_cons, ins_iff e x r, List.mem_cons]
      constructor
      · rintro (h | h | h)
        · exact .inr (.inl h)
        · exact .inl h
        · exact .inr (.inr h)
      · rintro (h | h | h)
        · exact .inr (.inl h)
        · exact .inl h
        · exact .inr (.inr h)
theorem scanP_mem (p : Nat → Option En) (x : En) : ∀ k, x ∈ scanP p k ↔ ∃ j, j < k ∧ p j = some x ∧ x.n % 8 = (j : Int)
  | 0 => by simp [scanP]
  | k + 1 => by
    have ih := scanP_mem p x k
    have key : (∃ j, j < k + 1 ∧ p j = some x ∧ x.n % 8 = (j : Int)) ↔ (p k = some x ∧ x.n % 8 = (k : Int)) ∨ x ∈ scanP p k := by
      rw [ih]
      constructor
      · rintro ⟨j, hj, h⟩
        rcases Nat.lt_succ_iff_lt_or_eq.1 hj with h1 | h1
        · exact .inr ⟨j, h1, h⟩
        · subst h1; exact .inl h
      · rintro (h | ⟨j, hj, h⟩)
        · exact ⟨k, Nat.lt_succ_self k, h⟩
        · exact ⟨j, Nat.lt_succ_of_lt hj, h⟩
    rw [key, scanP]
    cases hp : p k with
    | none => simp
    | some e =>
      simp only [Option.some.injEq]
      by_cases he : e.n % 8 = (k : Int)
      · rw [if_pos he, ins_iff]
        constructor
        · rintro (rfl | h)
          · exact .inl ⟨rfl, he⟩
          · exact .inr h
        · rintro (⟨rfl, _⟩ | h)
          · exact .inl rfl
          · exact .inr h
      · rw [if_neg he]
        constructor
        · exact .inr
        · rintro (⟨rfl, h⟩ | h)
          · exact absurd h he
          · exact h
theorem ins_sorted (e : En) : ∀ l : List En, l.Pairwise (fun a b => a.n ≤ b.n) → (ins e l).Pairwise (fun a b => a.n ≤ b.n)
  | [], _ => by simp [ins]
  | y :: r, h => by
    rw [List.pairwise_cons] at h
    rw [ins]
    split
    · rename_i hy
      rw [List.pairwise_cons]
      refine ⟨fun z hz => ?_, List.pairwise_cons.2 h⟩
      rcases List.mem_cons.1 hz with rfl | hz
      · omega
      · have := h.1 z hz; omega
    · rename_i hy
      rw [List.pairwise_cons]
      refine ⟨fun z hz => ?_, ins_sorted e r h.2⟩
      rcases (ins_iff e z r).1 hz with rfl | hz
      · omega
      · exact h.1 z hz
theorem scanP_sorted (p : Nat → Option En) : ∀ k, (scanP p k).Pairwise (fun a b => a.n ≤ b.n)
  | 0 => List.Pairwise.nil
  | k + 1 => by
    rw [scanP]
    split
    · split
      · exact ins_sorted _ _ (scanP_sorted p k)
      · exact scanP_sorted p k
    · exact scanP_sorted p k
theorem last_max {l : List En} {e : En} (h : l.Pairwise (fun a b => a.n ≤ b.n)) (hl : l.getLast? = some e) : ∀ x ∈ l, x.n ≤ e.n := by
  obtain ⟨ys, rfl⟩ := List.getLast?_eq_some_iff.1 hl
  rw [List.pairwise_append] at h
  intro x hx
  rcases List.mem_append.1 hx with h1 | h1
  · exact h.2.2 x h1 e (by simp)
  · rw [List.mem_singleton.1 h1]; exact Int.le_refl _
theorem last_of {l : List En} {e : En} (h : l.Pairwise (fun a b => a.n ≤ b.n)) (he : e ∈ l) (hm : ∀ x ∈ l, x ≠ e → x.n < e.n) : l.getLast? = some e := by
  cases hl : l.getLast? with
  | none => rw [List.getLast?_eq_none_iff] at hl; subst hl; cases he
  | some y =>
    by_cases hy : y = e
    · rw [hy]
    · have h1 := last_max h hl e he
      have h2 := hm y (List.mem_of_getLast? hl) hy
      omega
/-- the entries of blocks -/
def jp (L : List (List UInt8)) (j : Nat) : Option En := parse (L.getD j [])
theorem scan_L {D : Ds} (hW : D.W = []) : scan D 8 = scanP (jp D.L) 8 := by
  rw [scan_P]
  refine scanP_congr 8 fun j _ => ?_
  unfold jp Ds.get
  rw [hW]
  rfl
/-- The newest number of blocks. -/
structure Nw (L : List (List UInt8)) (n : Nat) (e : En) : Prop where
  len : 16 ≤ L.length
  zero : n = 0 → scanP (jp L) 8 = []
  last : n ≠ 0 → (scanP (jp L) 8).getLast? = some e ∧ e.n = (n : Int)
theorem Nw.le {L : List (List UInt8)} {n : Nat} {e : En} (h : Nw L n e) : ∀ x ∈ scanP (jp L) 8, x.n ≤ (n : Int) := by
  intro x hx
  by_cases h0 : n = 0
  · rw [h.zero h0] at hx; cases hx
  · obtain ⟨h1, h2⟩ := h.last h0
    rw [← h2]
    exact last_max (scanP_sorted _ 8) h1 x hx
theorem Nw.congr {L L' : List (List UInt8)} {n : Nat} {e : En} (h : Nw L n e) (hl : L'.length = L.length) (hj : ∀ j, j < 8 → L'.getD j [] = L.getD j []) : Nw L' n e := by
  have hs : scanP (jp L') 8 = scanP (jp L) 8 := scanP_congr 8 fun j hj8 => by unfold jp; rw [hj j hj8]
  exact ⟨by rw [hl]; exact h.len, by rw [hs]; exact h.zero, by rw [hs]; exact h.last⟩
theorem Nw.newest {D : Ds} {n : Nat} {e : En} (h : Nw D.L n e) (hW : D.W = []) : newest D = (n : Int) := by
  unfold Go.Proofs.Ytkdakmddlkgjkaa.newest
  rw [scan_L hW]
  by_cases h0 : n = 0
  · rw [h.zero h0, h0]; rfl
  · obtain ⟨h1, h2⟩ := h.last h0
    rw [h1, ← h2]
theorem getD_set (L : List (List UInt8)) (i j : Nat) (s : List UInt8) (hi : i < L.length) : (L.set i s).getD j [] = if j = i then s else L.getD j [] := by
  rw [List.getD_eq_getElem?_getD, List.getElem?_set]
  by_cases h : i = j
  · subst h; rw [if_pos rfl, if_pos hi, if_pos rfl]; rfl
  · rw [if_neg h, if_neg (fun e => h e.symm), List.getD_eq_getElem?_getD]
theorem mem_set {L : List (List UInt8)} {n : Nat} {e x : En} (h : Nw L n e) (hx : x.right = true) (hn : x.n = (n : Int) + 1) (y : En) :
    y ∈ scanP (jp (L.set ((n + 1) % 8) x.blk)) 8 ↔ y = x ∨ (y ∈ scanP (jp L) 8 ∧ y.n % 8 ≠ ((n : Int) + 1) % 8) := by
  have hlen := h.len
  have hi : (n + 1) % 8 < L.length := by omega
  rw [scanP_mem, scanP_mem]
  unfold jp
  constructor
  · rintro ⟨j, hj, h1, h2⟩
    rw [getD_set L _ j _ hi] at h1
    by_cases e : j = (n + 1) % 8
    · rw [if_pos e, parse_blk x hx] at h1; exact .inl (Option.some.inj h1).symm
    · rw [if_neg e] at h1; exact .inr ⟨⟨j, hj, h1, h2⟩, by omega⟩
  · rintro (rfl | ⟨⟨j, hj, h1, h2⟩, h3⟩)
    · exact ⟨(n + 1) % 8, by omega, by rw [getD_set L _ _ _ hi, if_pos rfl, parse_blk y hx], by omega⟩
    · exact ⟨j, hj, by rw [getD_set L _ j _ hi, if_neg (by omega)]; exact h1, h2⟩
theorem Nw.set {L : List (List UInt8)} {n : Nat} {e x : En} (h : Nw L n e) (hx : x.right = true) (hn : x.n = (n : Int) + 1) : Nw (L.set ((n + 1) % 8) x.blk) (n + 1) x := by
  refine ⟨by rw [List.length_set]; exact h.len, fun h0 => by omega, fun _ => ⟨last_of (scanP_sorted _ 8) ((mem_set h hx hn x).2 (.inl rfl)) fun y hy hne => ?_, by rw [hn]; rfl⟩⟩
  rcases (mem_set h hx hn y).1 hy with h1 | ⟨h1, _⟩
  · exact absurd h1 hne
  · have := h.le y h1; omega
/-! ### writes that last -/
theorem fl_other (p : Nat → Bool) (j : Nat) : ∀ (W : List (Nat × List UInt8)) (k : Nat) (L : List (List UInt8)), (∀ q ∈ W, q.1 ≠ j) → (fl p k W L).getD j [] = L.getD j []
  | [], _, _, _ => rfl
  | (i, s) :: W, k, L, h => by
    rw [fl, fl_other p j W _ _ fun q hq => h q (by simp [hq])]
    have hi : i ≠ j := h (i, s) (by simp)
    split
    · rw [List.getD_eq_getElem?_getD, List.getElem?_set, if_neg hi, List.getD_eq_getElem?_getD]
    · rfl
theorem fl_all (j : Nat) : ∀ (W : List (Nat × List UInt8)) (k : Nat) (L : List (List UInt8)), j < L.length → (fl (fun _ => true) k W L).getD j [] = lastW j W (L.getD j [])
  | [], _, _, _ => rfl
  | (i, s) :: W, k, L, h => by
    rw [fl, if_pos rfl, fl_all j W _ _ (by simpa using h), lastW]
    congr 1
    by_cases e : i = j
    · subst e; rw [if_pos rfl, getD_set L i i s h, if_pos rfl]
    · rw [if_neg e, List.getD_eq_getElem?_getD, List.getElem?_set, if_neg e, List.getD_eq_getElem?_getD]
/-- A disk of which nothing waits, and the power is on. -/
structure Qu (D : Ds) : Prop where
  off : D.off = false
  W : D.W = []
theorem Qu.plan {D : Ds} (h : Qu D) (k m : Nat) : Qu (D.plan k m) := ⟨h.off, h.W⟩
theorem Qu.get {D : Ds} (h : Qu D) (j : Nat) : D.get j = D.L.getD j [] := by unfold Ds.get; rw [h.W]; rfl
/-- Behind the power's failure it is on again. -/
theorem fail_start {D : Ds} (hW : D.W = []) (m : Nat) : (D.fail m).start.L = D.L ∧ Qu (D.fail m).start ∧ (D.fail m).start.ops = D.ops ∧ (D.fail m).start.gh = D.gh ∧ ((D.fail m).start.on = D.on) := by
  unfold Ds.fail Ds.start
  split
  · exact ⟨rfl, ⟨rfl, hW⟩, rfl, rfl, rfl⟩
  · refine ⟨?_, ⟨rfl, rfl⟩, rfl, rfl, rfl⟩
    show fl _ 0 D.W D.L = D.L
    rw [hW]; rfl
/-- cut: either goes on, or the power has failed and of what waited some lasts -/
theorem cut_cases {D : Ds} (ho : D.off = false) : (D.cut.1 = false ∧ D.cut.2.L = D.L ∧ D.cut.2.W = D.W ∧ D.cut.2.off = false ∧ (D.on = false → D.cut.2.on = false)) ∨ (D.on = true ∧ D.cut.1 = true ∧ D.cut.2.off = true ∧ D.cut.2.W = [] ∧ ∃ p, D.cut.2.L = fl p 0 D.W D.L) := by
  unfold Ds.cut
  split
  · rename_i hon
    split
    · exact .inl ⟨rfl, rfl, rfl, ho, fun h => by rw [hon] at h; cases h⟩
    · refine .inr ⟨hon, rfl, ?_⟩
      unfold Ds.fail
      rw [if_neg (by show ¬ D.off = true; rw [ho]; decide)]
      exact ⟨rfl, rfl, _, rfl⟩
  · rename_i hon
    exact .inl ⟨rfl, rfl, rfl, ho, fun _ => by simpa using hon⟩
/-- An append: it is there; or the power has failed, and it is there or not. -/
theorem app_cases {D : Ds} {n : Nat} {e : En} (h : Nw D.L n e) (hq : Qu D) (hn : n < 1000000) (x : En) (hx : ({ x with n := (n : Int) + 1 } : En).right = true) :
    ((app D x).1 = 0 ∧ (app D x).2.1 = { x with n := (n : Int) + 1 } ∧ Qu (app D x).2.2 ∧ (app D x).2.2.L = D.L.set ((n + 1) % 8) ({ x with n := (n : Int) + 1 } : En).blk ∧ (D.on = false → (app D x).2.2.on = false)) ∨
    (D.on = true ∧ (app D x).1 = 7 ∧ (app D x).2.2.off = true ∧ (app D x).2.2.W = [] ∧ ((app D x).2.2.L = D.L ∨ (app D x).2.2.L = D.L.set ((n + 1) % 8) ({ x with n := (n : Int) + 1 } : En).blk)) := by
  have hlen := h.len
  obtain ⟨y, hy⟩ : ∃ y : En, ({ x with n := (n : Int) + 1 } : En) = y := ⟨_, rfl⟩
  have hyn : y.n = (n : Int) + 1 := by rw [← hy]
  have e0 : app D x = if (D.write (y.n % 8) y.blk).1 ≠ 0 then ((D.write (y.n % 8) y.blk).1, E0, (D.write (y.n % 8) y.blk).2) else if (D.write (y.n % 8) y.blk).2.sync.1 ≠ 0 then ((D.write (y.n % 8) y.blk).2.sync.1, E0, (D.write (y.n % 8) y.blk).2.sync.2) else (0, y, (D.write (y.n % 8) y.blk).2.sync.2) := by
    unfold app
    rw [if_neg (by rw [hq.off]; decide), if_neg (by rw [h.newest hq.W]; omega)]
    simp only [h.newest hq.W, hy]
    rw [if_pos (by rw [← hy]; exact hx), hyn]
  rw [hy] at hx ⊢
  have hb := blk_len y hx
  have hi : (y.n % 8).toNat = (n + 1) % 8 := by omega
  have ew : D.write (y.n % 8) y.blk = ((if (D.put ((n + 1) % 8) y.blk).1 then 7 else 0), (D.put ((n + 1) % 8) y.blk).2) := by
    unfold Ds.write
    rw [if_neg (by rw [hq.off]; decide), if_pos ⟨by omega, by omega, hb⟩, hi]
  have hfl : ∀ p, fl p 0 [((n + 1) % 8, y.blk)] D.L = D.L ∨ fl p 0 [((n + 1) % 8, y.blk)] D.L = D.L.set ((n + 1) % 8) y.blk := by
    intro p
    show (if p 0 then D.L.set _ _ else D.L) = _ ∨ (if p 0 then D.L.set _ _ else D.L) = _
    cases p 0
    · exact .inl rfl
    · exact .inr rfl
  have hput : (({ D with W := D.W ++ [((n + 1) % 8, y.blk)], gh := D.gh + 1 } : Ds)).off = false := hq.off
  have hWp : D.W ++ [((n + 1) % 8, y.blk)] = [((n + 1) % 8, y.blk)] := by rw [hq.W]; rfl
  rcases cut_cases hput with ⟨c1, c2, c3, c4, c5⟩ | ⟨hon, c1, c2, c3, p, c4⟩
  · -- the write goes on
    have e1 : (D.write (y.n % 8) y.blk).1 = 0 := by rw [ew]; unfold Ds.put; rw [c1]; rfl
    have e2 : (D.write (y.n % 8) y.blk).2 = (D.put ((n + 1) % 8) y.blk).2 := by rw [ew]
    rw [e1, if_neg (by simp)] at e0
    obtain ⟨D1, hD1⟩ : ∃ D1, (D.write (y.n % 8) y.blk).2 = D1 := ⟨_, rfl⟩
    have f1 : D1.L = D.L := by rw [← hD1, e2]; exact c2
    have f2 : D1.W = [((n + 1) % 8, y.blk)] := by rw [← hD1, e2]; exact c3.trans hWp
    have f3 : D1.off = false := by rw [← hD1, e2]; exact c4
    have f4 : D.on = false → D1.on = false := by rw [← hD1, e2]; exact c5
    have f5 : D1.on = true → D.on = true := fun ht => by
      cases ho : D.on with
      | true => rfl
      | false => rw [f4 ho] at ht; cases ht
    rw [hD1] at e0
    have es : D1.sync = if D1.cut.1 then (7, D1.cut.2) else (0, D1.cut.2.settle fun _ => true) := by
      unfold Ds.sync
      rw [if_neg (by rw [f3]; decide)]
    rw [es] at e0
    rcases cut_cases f3 with ⟨g1, g2, g3, g4, g5⟩ | ⟨hon, g1, g2, g3, p, g4⟩
    · rw [g1] at e0
      simp only [Bool.false_eq_true, if_false, ne_eq, not_true_eq_false] at e0
      rw [e0]
      refine .inl ⟨rfl, rfl, ⟨g4, rfl⟩, ?_, fun ho => g5 (f4 ho)⟩
      show fl _ 0 D1.cut.2.W D1.cut.2.L = _
      rw [g2, g3, f1, f2]
      rfl
    · rw [g1] at e0
      simp only [if_true, ne_eq, show ¬ (7 : Nat) = 0 by decide, not_false_eq_true] at e0
      rw [e0]
      refine .inr ⟨f5 hon, rfl, g2, g3, ?_⟩
      show D1.cut.2.L = _ ∨ D1.cut.2.L = _
      rw [g4, f1, f2]
      exact hfl p
  · have e1 : (D.write (y.n % 8) y.blk).1 = 7 := by rw [ew]; unfold Ds.put; rw [c1]; rfl
    have e2 : (D.write (y.n % 8) y.blk).2 = (D.put ((n + 1) % 8) y.blk).2 := by rw [ew]
    rw [e1, if_pos (by decide), e2] at e0
    rw [e0]
    refine .inr ⟨hon, rfl, c2, c3, ?_⟩
    show (Ds.cut _).2.L = _ ∨ (Ds.cut _).2.L = _
    rw [c4]
    show fl p 0 (D.W ++ _) D.L = _ ∨ fl p 0 (D.W ++ _) D.L = _
    rw [hWp]
    exact hfl p
end Go.Proofs.Ytkdakmddlkgjkaa
open Go.RowKit Go.Lib
namespace Go.Proofs.Ytkdakmddlkgjkaa
set_option maxRecDepth 100000
open Sha
/-! Plain: a store whose disk tells what it keeps; what Prepare, Commit and Drop leave, whatever fails. -/
def glue (L : List (List UInt8)) (a : Nat) : Nat → List UInt8
  | 0 => []
  | i + 1 => glue L a i ++ L.getD (a + i) []
theorem sgets_glue {D : Ds} (hW : D.W = []) (a : Nat) : ∀ n, sgets D a n = glue D.L a n
  | 0 => rfl
  | n + 1 => by
    rw [sgets, glue, sgets_glue hW a n]
    unfold Ds.get
    rw [hW]
    rfl
theorem glue_congr {L L' : List (List UInt8)} {a : Nat} : ∀ n, (∀ i, i < n → L'.getD (a + i) [] = L.getD (a + i) []) → glue L' a n = glue L a n
  | 0, _ => rfl
  | n + 1, h => by rw [glue, glue, glue_congr n fun i hi => h i (by omega), h n (Nat.lt_succ_self n)]
theorem glue_chunk (s : List UInt8) {L : List (List UInt8)} {a : Nat} : ∀ n, 64 * n < s.length + 64 → (∀ i, i < n → L.getD (a + i) [] = chunk s i) → glue L a n = s.take (64 * n) ++ List.replicate (64 * n - s.length) 0
  | 0, _, _ => by simp [glue]
  | n + 1, hn, h => by
    rw [glue, glue_chunk s n (by omega) fun i hi => h i (by omega), h n (Nat.lt_succ_self n)]
    have h0 : 64 * n - s.length = 0 := by omega
    rw [h0, List.replicate_zero, List.append_nil]
    unfold chunk
    rw [show 64 * (n + 1) = 64 * n + 64 by omega, List.take_add, List.length_take, List.length_drop, ← List.append_assoc]
    congr 2
    omega
theorem glue_text (s : List UInt8) {L : List (List UInt8)} {a : Nat} (h : ∀ i, i < cnt s.length → L.getD (a + i) [] = chunk s i) : (glue L a (cnt s.length)).take s.length = s := by
  have hc : 64 * cnt s.length < s.length + 64 ∧ s.length ≤ 64 * cnt s.length := by unfold cnt; omega
  rw [glue_chunk s _ hc.1 h, List.take_of_length_le hc.2, List.take_left]
/-! ### slots.Write -/
def Wn (a : Nat) (s : List UInt8) (i : Nat) : List (Nat × List UInt8) := (List.range i).map fun t => (a + t, chunk s t)
theorem Wn_succ (a : Nat) (s : List UInt8) (i : Nat) : Wn a s (i + 1) = Wn a s i ++ [(a + i, chunk s i)] := by
  unfold Wn; rw [List.range_succ, List.map_append]; rfl
theorem Wn_out {a : Nat} {s : List UInt8} {i j : Nat} (h : j < a ∨ a + i ≤ j) : ∀ q ∈ Wn a s i, q.1 ≠ j := by
  intro q hq
  unfold Wn at hq
  obtain ⟨t, ht, rfl⟩ := List.mem_map.1 hq
  have := List.mem_range.1 ht
  show a + t ≠ j
  omega
theorem Wn_last (a : Nat) (s : List UInt8) (i : Nat) (d : List UInt8) : ∀ n, i < n → lastW (a + i) (Wn a s n) d = chunk s i
  | 0, h => by omega
  | n + 1, h => by
    rw [Wn_succ, lastW_append]
    show lastW (a + i) [] (if a + n = a + i then chunk s n else lastW (a + i) (Wn a s n) d) = chunk s i
    by_cases e : n = i
    · subst e; rw [if_pos rfl]; rfl
    · rw [if_neg (by omega), Wn_last a s i d n (by omega)]; rfl
theorem swl_cases {D : Ds} (hq : Qu D) (a : Nat) (s : List UInt8) : ∀ i, a + i ≤ D.L.length →
    ((swl D a s i).1 = 0 ∧ (swl D a s i).2.off = false ∧ (swl D a s i).2.L = D.L ∧ (swl D a s i).2.W = Wn a s i ∧ (D.on = false → (swl D a s i).2.on = false)) ∨
    (D.on = true ∧ (swl D a s i).1 = 7 ∧ (swl D a s i).2.off = true ∧ (swl D a s i).2.W = [] ∧ ∀ j, (j < a ∨ a + i ≤ j) → (swl D a s i).2.L.getD j [] = D.L.getD j [])
  | 0, _ => .inl ⟨rfl, hq.off, rfl, hq.W, fun h => h⟩
  | i + 1, hi => by
    rcases swl_cases hq a s i (by omega) with ⟨h1, h2, h3, h4, h5⟩ | ⟨h0, h1, h2, h3, h4⟩
    · rw [swl_next D a s i h1]
      obtain ⟨D1, hD1⟩ : ∃ D1, (swl D a s i).2 = D1 := ⟨_, rfl⟩
      rw [hD1] at h2 h3 h4 h5 ⊢
      have ew : D1.write ((a + i : Nat) : Int) (chunk s i) = ((if (D1.put (a + i) (chunk s i)).1 then 7 else 0), (D1.put (a + i) (chunk s i)).2) := by
        unfold Ds.write
        rw [if_neg (by rw [h2]; decide), if_pos ⟨by omega, by rw [h3]; omega, chunk_len s i⟩]
        rfl
      rw [ew]
      have hput : (({ D1 with W := D1.W ++ [(a + i, chunk s i)], gh := D1.gh + 1 } : Ds)).off = false := h2
      have hWp : D1.W ++ [(a + i, chunk s i)] = Wn a s (i + 1) := by rw [h4, Wn_succ]
      unfold Ds.put
      rcases cut_cases hput with ⟨c1, c2, c3, c4, c5⟩ | ⟨hon, c1, c2, c3, p, c4⟩
      · rw [c1]
        exact .inl ⟨rfl, c4, c2.trans h3, c3.trans hWp, fun ho => c5 (h5 ho)⟩
      · rw [c1]
        have hon2 : D.on = true := by
          cases ho : D.on with
          | true => rfl
          | false => have h6 := h5 ho; have h7 : D1.on = true := hon; rw [h6] at h7; cases h7
        refine .inr ⟨hon2, rfl, c2, c3, fun j hj => ?_⟩
        show (Ds.cut _).2.L.getD j [] = _
        rw [c4]
        show (fl p 0 (D1.W ++ _) D1.L).getD j [] = _
        rw [hWp, h3]
        exact fl_other p j _ _ _ (Wn_out hj)
    · have e : swl D a s (i + 1) = swl D a s i := swl_stop D a s i (by rw [h1]; decide) (i + 1) (Nat.le_succ i)
      rw [e]
      exact .inr ⟨h0, h1, h2, h3, fun j hj => h4 j (by omega)⟩
theorem swrite_cases {D : Ds} (hq : Qu D) (slot : Nat) (hs : slot < 2) (s : List UInt8) (hl : s.length ≤ bks D * 64) (h16 : 16 ≤ D.L.length) :
    ((swrite D slot s).1 = 0 ∧ Qu (swrite D slot s).2 ∧ (∀ j, (j < 8 + slot * bks D ∨ 8 + (slot + 1) * bks D ≤ j) → (swrite D slot s).2.L.getD j [] = D.L.getD j []) ∧ (∀ i, i < cnt s.length → (swrite D slot s).2.L.getD (8 + slot * bks D + i) [] = chunk s i) ∧ (D.on = false → (swrite D slot s).2.on = false)) ∨
    (D.on = true ∧ (swrite D slot s).1 = 7 ∧ (swrite D slot s).2.off = true ∧ (swrite D slot s).2.W = [] ∧ ∀ j, (j < 8 + slot * bks D ∨ 8 + (slot + 1) * bks D ≤ j) → (swrite D slot s).2.L.getD j [] = D.L.getD j []) := by
  have hc : cnt s.length ≤ bks D := by unfold cnt; omega
  have hB : 8 + 2 * bks D ≤ D.L.length := by unfold bks; omega
  have hm : slot * bks D + bks D ≤ 2 * bks D := by
    rcases Nat.lt_or_ge slot 1 with h | h
    · have : slot = 0 := by omega
      subst this; omega
    · have : slot = 1 := by omega
      subst this; omega
  have hs1 : (slot + 1) * bks D = slot * bks D + bks D := Nat.succ_mul _ _
  obtain ⟨a, ha⟩ : ∃ a, 8 + slot * bks D = a := ⟨_, rfl⟩
  have hout : ∀ j, (j < 8 + slot * bks D ∨ 8 + (slot + 1) * bks D ≤ j) → (j < a ∨ a + cnt s.length ≤ j) := fun j hj => by omega
  unfold swrite
  rw [if_neg (by omega), ha]
  rw [ha] at hout
  rcases swl_cases hq a s (cnt s.length) (by omega) with ⟨h1, h2, h3, h4, h5⟩ | ⟨h0, h1, h2, h3, h4⟩
  · rw [if_neg (by rw [h1]; simp)]
    obtain ⟨D1, hD1⟩ : ∃ D1, (swl D a s (cnt s.length)).2 = D1 := ⟨_, rfl⟩
    rw [hD1] at h2 h3 h4 h5 ⊢
    unfold Ds.sync
    rw [if_neg (by rw [h2]; decide)]
    rcases cut_cases h2 with ⟨g1, g2, g3, g4, g5⟩ | ⟨hon, g1, g2, g3, p, g4⟩
    · rw [g1, if_neg (by decide)]
      have eL : (D1.cut.2.settle fun _ => true).L = fl (fun _ => true) 0 (Wn a s (cnt s.length)) D.L := by
        show fl _ 0 D1.cut.2.W D1.cut.2.L = _
        rw [g2, g3, h3, h4]
      refine .inl ⟨rfl, ⟨g4, rfl⟩, fun j hj => ?_, fun i hi => ?_, fun ho => g5 (h5 ho)⟩
      · show (D1.cut.2.settle fun _ => true).L.getD j [] = _
        rw [eL]; exact fl_other _ j _ _ _ (Wn_out (hout j hj))
      · show (D1.cut.2.settle fun _ => true).L.getD (a + i) [] = _
        rw [eL, fl_all _ _ _ _ (by omega)]
        exact Wn_last a s i _ _ hi
    · rw [g1, if_pos rfl]
      have hon2 : D.on = true := by
        cases ho : D.on with
        | true => rfl
        | false => have h6 := h5 ho; rw [h6] at hon; cases hon
      refine .inr ⟨hon2, rfl, g2, g3, fun j hj => ?_⟩
      show D1.cut.2.L.getD j [] = _
      rw [g4, h3, h4]
      exact fl_other p j _ _ _ (Wn_out (hout j hj))
  · rw [if_pos (by rw [h1]; decide)]
    exact .inr ⟨h0, h1, h2, h3, fun j hj => h4 j (hout j hj)⟩
/-! ### what is kept -/
/-- A text that a slot of the disk holds; or none. -/
structure Kv (L : List (List UInt8)) (k : Kp) : Prop where
  no : k.sl = 2 → k = K0
  sl : k.sl = 0 ∨ k.sl = 1 ∨ k.sl = 2
  len : k.tx.length ≤ (L.length - 8) / 2 * 64
  sum : k.sm.length = 32
  yes : k.sl ≠ 2 → sha k.tx = k.sm ∧ (glue L (8 + k.sl.toNat * ((L.length - 8) / 2)) (cnt k.tx.length)).take k.tx.length = k.tx
structure Gd (L : List (List UInt8)) (k : Kp) (n : Nat) : Prop where
  nw : ∃ e, Nw L n e ∧ (n ≠ 0 → e.sl = k.sl ∧ e.sz = ((k.tx.length : Nat) : Int) ∧ e.sum = k.sm)
  zero : n = 0 → k.sl = 2
  kv : Kv L k
theorem cnt_le {n B : Nat} (h : n ≤ B * 64) : cnt n ≤ B := by unfold cnt; omega
theorem Kv.congr {L L' : List (List UInt8)} {k : Kp} (h : Kv L k) (hl : L'.length = L.length) (hj : k.sl ≠ 2 → ∀ j, 8 + k.sl.toNat * ((L.length - 8) / 2) ≤ j → j < 8 + (k.sl.toNat + 1) * ((L.length - 8) / 2) → L'.getD j [] = L.getD j []) : Kv L' k := by
  refine ⟨h.no, h.sl, by rw [hl]; exact h.len, h.sum, fun h2 => ⟨(h.yes h2).1, ?_⟩⟩
  rw [hl, glue_congr (L := L)]
  · exact (h.yes h2).2
  · intro i hi
    have h1 := cnt_le h.len
    have h3 : (k.sl.toNat + 1) * ((L.length - 8) / 2) = k.sl.toNat * ((L.length - 8) / 2) + (L.length - 8) / 2 := Nat.succ_mul _ _
    exact hj h2 _ (by omega) (by omega)
theorem sopen_gd {D : Ds} {k : Kp} {n : Nat} (hq : Qu D) (h : Gd D.L k n) : sopen D = (some (k, false), 0) := by
  obtain ⟨e, hn, he⟩ := h.nw
  unfold sopen
  rw [if_neg (by rw [hq.off]; decide)]
  by_cases h0 : n = 0
  · rw [if_pos (.inl (by rw [scan_L hq.W, hn.zero h0]; rfl)), h.kv.no (h.zero h0)]
  · obtain ⟨h1, h2⟩ := hn.last h0
    obtain ⟨e1, e2, e3⟩ := he h0
    have hle : lastE D = e := by unfold lastE; rw [scan_L hq.W, h1]; rfl
    rw [hle]
    by_cases h4 : k.sl = 2
    · rw [if_pos (.inr (e1.trans h4)), h.kv.no h4]
    · have hne : ¬ ((scan D 8).isEmpty = true ∨ e.sl = 2) := by
        rintro (h5 | h5)
        · rw [scan_L hq.W] at h5
          have := List.isEmpty_iff.1 h5
          rw [this] at h1; cases h1
        · exact h4 (e1.symm.trans h5)
      rw [if_neg hne]
      have hsl := h.kv.sl
      obtain ⟨y1, y2⟩ := h.kv.yes h4
      have hlen := h.kv.len
      have hr : sread D e.sl e.sz = (k.tx, 0) := by
        unfold sread
        rw [e1, e2, if_neg (by unfold swr; rw [if_pos (by omega)]; simp), if_neg (by unfold bks; omega), if_neg (by rw [hq.off]; simp), sgets_glue hq.W, Int.toNat_natCast]
        unfold bks
        rw [y2]
      have hk : rdk D e = (k, true, 0) := by
        unfold rdk
        rw [hr]
        simp only
        rw [if_neg (by decide), if_neg (by rintro (hc | hc); exact hc rfl; exact hc (y1.trans e3.symm))]
        rw [e1, e3]
      rw [hk]
      rfl
theorem ent_right {L : List (List UInt8)} {k : Kp} (h : Kv L k) (kind : Int) (hk : 1 ≤ kind ∧ kind ≤ 3) (n : Nat) (hn : n < 1000000) (hL : L.length ≤ 512) : ({ (k.ent kind) with n := (n : Int) + 1 } : En).right = true := by
  have h1 := h.sl
  have h2 := h.len
  have h3 := h.sum
  refine decide_eq_true ⟨hk.1, hk.2, ?_, ?_, ?_, ?_, ?_, ?_, h3⟩ <;> simp only [Kp.ent] <;> omega
/-- an entry of k2 is appended -/
theorem Gd.put {D : Ds} {k k2 : Kp} {n : Nat} (h : Gd D.L k n) (hq : Qu D) (hn : n < 1000000) (h2 : Kv D.L k2) (hL : D.L.length ≤ 512) (kind : Int) (hk : 1 ≤ kind ∧ kind ≤ 3) :
    ((app D (k2.ent kind)).1 = 0 ∧ Qu (app D (k2.ent kind)).2.2 ∧ Gd (app D (k2.ent kind)).2.2.L k2 (n + 1) ∧ (∀ j, 8 ≤ j → (app D (k2.ent kind)).2.2.L.getD j [] = D.L.getD j []) ∧ (app D (k2.ent kind)).2.2.L.length = D.L.length ∧ (D.on = false → (app D (k2.ent kind)).2.2.on = false)) ∨
    (D.on = true ∧ (app D (k2.ent kind)).1 = 7 ∧ (app D (k2.ent kind)).2.2.off = true ∧ (app D (k2.ent kind)).2.2.W = [] ∧ (app D (k2.ent kind)).2.2.L.length = D.L.length ∧ (Gd (app D (k2.ent kind)).2.2.L k n ∨ Gd (app D (k2.ent kind)).2.2.L k2 (n + 1))) := by
  obtain ⟨e, hw, he⟩ := h.nw
  have hlen := hw.len
  have hr := ent_right h2 kind hk n hn hL
  have hi : (n + 1) % 8 < D.L.length := by omega
  have hset : ∀ X : List UInt8, ∀ j, 8 ≤ j → (D.L.set ((n + 1) % 8) X).getD j [] = D.L.getD j [] := fun X j hj => by rw [getD_set _ _ _ _ hi, if_neg (by omega)]
  have hg : Gd (D.L.set ((n + 1) % 8) ({ (k2.ent kind) with n := (n : Int) + 1 } : En).blk) k2 (n + 1) := by
    refine ⟨⟨_, hw.set hr rfl, fun _ => ⟨rfl, rfl, rfl⟩⟩, fun h0 => by omega, h2.congr (List.length_set ..) fun _ j hj _ => hset _ j (by omega)⟩
  rcases app_cases hw hq hn (k2.ent kind) hr with ⟨a1, _, a3, a4, a5⟩ | ⟨a0, a1, a2, a3, a4⟩
  · refine .inl ⟨a1, a3, by rw [a4]; exact hg, fun j hj => by rw [a4]; exact hset _ j hj, by rw [a4]; exact List.length_set .., a5⟩
  · refine .inr ⟨a0, a1, a2, a3, ?_, ?_⟩
    · rcases a4 with a4 | a4
      · rw [a4]
      · rw [a4]; exact List.length_set ..
    · rcases a4 with a4 | a4
      · rw [a4]; exact .inl h
      · rw [a4]; exact .inr hg
theorem Gd.congr {L L' : List (List UInt8)} {k : Kp} {n : Nat} (h : Gd L k n) (hl : L'.length = L.length) (h8 : ∀ j, j < 8 → L'.getD j [] = L.getD j []) (hj : k.sl ≠ 2 → ∀ j, 8 + k.sl.toNat * ((L.length - 8) / 2) ≤ j → j < 8 + (k.sl.toNat + 1) * ((L.length - 8) / 2) → L'.getD j [] = L.getD j []) : Gd L' k n := by
  obtain ⟨e, hw, he⟩ := h.nw
  exact ⟨⟨e, hw.congr hl h8, he⟩, h.zero, h.kv.congr hl hj⟩
theorem oth_lt (k : Kp) : oth k < 2 := by unfold oth; split <;> decide
theorem oth_out {L : List (List UInt8)} {k : Kp} (h : Kv L k) (h2 : k.sl ≠ 2) (B j : Nat) (h3 : 8 + k.sl.toNat * B ≤ j) (h4 : j < 8 + (k.sl.toNat + 1) * B) : j < 8 + oth k * B ∨ 8 + (oth k + 1) * B ≤ j := by
  have hs := h.sl
  unfold oth
  by_cases h0 : k.sl = 0
  · rw [if_pos h0]
    rw [h0] at h4
    left
    simp at h4 ⊢
    omega
  · have h1 : k.sl = 1 := by omega
    rw [if_neg h0]
    rw [h1] at h3
    right
    simp at h3 ⊢
    omega
/-- Prepare -/
theorem Gd.prep {D : Ds} {k : Kp} {n : Nat} (h : Gd D.L k n) (hq : Qu D) (hok : D.ok) (hn : n < 1000000) (tx : List UInt8) (hl : tx.length ≤ bks D * 64) :
    ((sprep D k tx).1 = 0 ∧ Qu (sprep D k tx).2.1 ∧ Gd (sprep D k tx).2.1.L k (n + 1) ∧ (sprep D k tx).2.2 = some ⟨oth k, tx, sha tx⟩ ∧ Kv (sprep D k tx).2.1.L ⟨oth k, tx, sha tx⟩ ∧ (sprep D k tx).2.1.L.length = D.L.length ∧ (D.on = false → (sprep D k tx).2.1.on = false)) ∨
    (D.on = true ∧ (sprep D k tx).1 = 7 ∧ (sprep D k tx).2.1.off = true ∧ (sprep D k tx).2.1.W = [] ∧ (sprep D k tx).2.2 = none ∧ (sprep D k tx).2.1.L.length = D.L.length ∧ ∃ n', n' ≤ n + 1 ∧ Gd (sprep D k tx).2.1.L k n') := by
  have hlen : 16 ≤ D.L.length := hok.lo
  have hL := (swrite_ops hok (oth k) tx).2.2
  have h8 : ∀ {j}, j < 8 → j < 8 + oth k * bks D ∨ 8 + (oth k + 1) * bks D ≤ j := fun hj => by omega
  unfold sprep
  obtain ⟨⟨c1, D1⟩, hw⟩ : ∃ r, swrite D (oth k) tx = r := ⟨_, rfl⟩
  have hcs := swrite_cases hq (oth k) (oth_lt k) tx hl hlen
  rw [hw] at hcs hL ⊢
  simp only at hcs hL ⊢
  rcases hcs with ⟨a1, a2, a3, a4, a5⟩ | ⟨a0, a1, a2, a3, a4⟩
  · subst a1
    rw [if_neg (by simp)]
    have hg : Gd D1.L k n := h.congr hL (fun j hj => a3 j (h8 hj)) (fun h2 j h3 h4 => a3 j (oth_out h.kv h2 _ j h3 h4))
    have hv : Kv D1.L ⟨oth k, tx, sha tx⟩ := by
      have ho := oth_lt k
      refine ⟨fun h2 => ?_, ?_, by rw [hL]; exact hl, sha_len tx, fun _ => ⟨rfl, ?_⟩⟩
      · have : ((oth k : Nat) : Int) = 2 := h2
        omega
      · show ((oth k : Nat) : Int) = 0 ∨ ((oth k : Nat) : Int) = 1 ∨ ((oth k : Nat) : Int) = 2
        omega
      · show (glue D1.L (8 + ((oth k : Nat) : Int).toNat * ((D1.L.length - 8) / 2)) (cnt tx.length)).take tx.length = tx
        rw [hL, Int.toNat_natCast]
        exact glue_text tx a4
    rcases hg.put a2 hn hg.kv (by rw [hL]; exact hok.hi) 1 (by decide) with ⟨b1, b2, b3, b4, b5, b6⟩ | ⟨b0, b1, b2, b3, b4, b5⟩
    · rw [if_neg (by rw [b1]; simp)]
      refine .inl ⟨rfl, b2, b3, rfl, hv.congr b5 (fun _ j h3 _ => b4 j (by omega)), by show (app D1 (k.ent 1)).2.2.L.length = _; rw [b5, hL], fun ho => b6 (a5 ho)⟩
    · rw [if_pos (by rw [b1]; decide)]
      have hon : D.on = true := by
        cases ho : D.on with
        | true => rfl
        | false => rw [a5 ho] at b0; cases b0
      refine .inr ⟨hon, b1, b2, b3, rfl, by show (app D1 (k.ent 1)).2.2.L.length = _; rw [b4, hL], ?_⟩
      rcases b5 with b5 | b5
      · exact ⟨n, by omega, b5⟩
      · exact ⟨n + 1, by omega, b5⟩
  · subst a1
    rw [if_pos (by decide)]
    exact .inr ⟨a0, rfl, a2, a3, rfl, hL, n, by omega, h.congr hL (fun j hj => a4 j (h8 hj)) (fun h2 j h3 h4 => a4 j (oth_out h.kv h2 _ j h3 h4))⟩
/-- A new disk. -/
theorem gd_new (m : Nat) (h1 : 16 ≤ m) : Gd (Ds0 m).L K0 0 ∧ Qu (Ds0 m) := by
  have e : ∀ j, j < 8 → jp (Ds0 m).L j = none := by
    intro j hj
    unfold jp
    have : (Ds0 m).L.getD j [] = List.replicate 64 0 := by
      show (List.replicate m (List.replicate 64 (0 : UInt8))).getD j [] = _
      rw [List.getD_eq_getElem?_getD, List.getElem?_replicate, if_pos (by omega)]; rfl
    rw [this]
    decide +kernel
  have hs : scanP (jp (Ds0 m).L) 8 = [] := by
    rw [List.eq_nil_iff_forall_not_mem]
    intro x hx
    obtain ⟨j, hj, h2, _⟩ := (scanP_mem _ x 8).1 hx
    rw [e j hj] at h2
    cases h2
  refine ⟨⟨⟨E0, ⟨by show 16 ≤ (List.replicate m _).length; rw [List.length_replicate]; exact h1, fun _ => hs, fun h => absurd rfl h⟩, fun h => absurd rfl h⟩, fun _ => rfl, ⟨fun _ => rfl, .inr (.inr rfl), by simp [K0], by decide, fun h => absurd rfl h⟩⟩, ⟨rfl, rfl⟩⟩
end Go.Proofs.Ytkdakmddlkgjkaa
