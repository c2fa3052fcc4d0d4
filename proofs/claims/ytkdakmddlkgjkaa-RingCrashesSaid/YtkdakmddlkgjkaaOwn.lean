import Derived.ArgAppend
import Derived.Lib.AppendStr
import Derived.Lib.ConvBytes
import Derived.Laws.BytesArg
import Derived.Laws.MakeOwn
import Derived.Maps.AppendAt
import Derived.Test.YtkdakmddlkgjkaaMem
namespace Go.Proofs.Ytkdakmddlkgjkaa
set_option maxRecDepth 100000
open Go.RowKit Go.Lib
/-- The slice v, of n elements of 'size' cells each, lies at the head of a block from 'base' on that nobody else holds: its cells are xs; a frozen mark may lie behind the capacity. -/
def Own (w : World) (base : Nat) (e : TypeId) (size : Nat) (v : Value) (n : Nat) (xs : List Value) : Prop :=
  xs.length = n * size ∧ ((v = .slice none 0 0 ∧ n = 0) ∨
    ∃ g cap cur fr, v = .slice (some ⟨g, 0, none⟩) n cap ∧ base ≤ g ∧ w.heap[g]? = some (.cells cur e fr) ∧ (fr.1 = fr.2 ∨ cap * size ≤ fr.1) ∧ n ≤ cap ∧ cap ≤ maxLen ∧ cap * size ≤ cur.size ∧ cur.toList.take (n * size) = xs)
section
variable {P : Program} {w w' : World} {base : Nat} {e : TypeId} {size : Nat} {v : Value} {n : Nat} {xs : List Value}
theorem Own.of (h : w.ownsRow base e size v n xs) : Own w base e size v n xs := by
  refine ⟨h.1, h.2.imp id ?_⟩
  rintro ⟨g, cap, cur, h1, h2, h3, h4, h5, h6, h7⟩
  exact ⟨g, cap, cur, (0, 0), h1, h2, h3, .inl rfl, h4, h5, by omega, h7⟩
theorem Own.nil (w : World) (base : Nat) (e : TypeId) (size : Nat) : Own w base e size (.slice none 0 0) 0 [] := ⟨by simp, .inl ⟨rfl, rfl⟩⟩
theorem Own.lt (h : Own w base e size v n xs) : ∀ k, v.ownBlock = some k → base ≤ k ∧ k < w.heap.size := by
  intro k hk
  rcases h.2 with ⟨rfl, _⟩ | ⟨g, cap, cur, fr, rfl, hb, hg, _⟩
  · simp [Value.ownBlock] at hk
  · simp only [Value.ownBlock, Option.some.injEq] at hk
    subst hk
    exact ⟨hb, blk_lt hg⟩
/-- It stays owned in whatever world in which its block is as it was. -/
theorem Own.keep (h : Own w base e size v n xs) (hk : ∀ k, v.ownBlock = some k → w'.heap[k]? = w.heap[k]?) : Own w' base e size v n xs := by
  refine ⟨h.1, h.2.imp id ?_⟩
  rintro ⟨g, cap, cur, fr, rfl, h2, h3, r⟩
  exact ⟨g, cap, cur, fr, rfl, h2, by rw [hk g rfl]; exact h3, r⟩
theorem Own.below (h : Own w base e size v n xs) (hb : Below w.heap.size w w') : Own w' base e size v n xs :=
  h.keep fun k hk => hb.block k (h.lt k hk).2
theorem Own.alloc (h : Own w base e size v n xs) (o : Obj) : Own (w.alloc o) base e size v n xs := h.below ((Below.refl _ _).alloc (Nat.le_refl _) o)
theorem Own.drew (h : Own w base e size v n xs) : Own w.drew base e size v n xs := h
theorem Own.drewN (h : Own w base e size v n xs) (m : Nat) : Own (w.drewN m) base e size v n xs := h
theorem Own.setCell (h : Own w base e size v n xs) (p : Addr) (u : Value) (hp : v.ownBlock ≠ some p.block) : Own (w.setCell p u) base e size v n xs :=
  h.keep fun k hk => Below.heap_setCell _ _ _ _ (fun he => hp (by rw [hk, he]))
theorem Own.mono (h : Own w base e size v n xs) {b : Nat} (hb : b ≤ base) : Own w b e size v n xs := by
  refine ⟨h.1, h.2.imp id ?_⟩
  rintro ⟨g, cap, cur, fr, h1, h2, r⟩
  exact ⟨g, cap, cur, fr, h1, by omega, r⟩
/-- The cells of it. -/
theorem Own.cell {b c : Nat} (h : Own w base e size (.slice (some ⟨b, 0, none⟩) n c) n xs) (j : Nat) (hj : j < n * size) : w.cell? ⟨b, j, none⟩ = xs[j]? := by
  rcases h.2 with ⟨h1, _⟩ | ⟨g, cap, cur, fr, h1, _, hg, _, _, _, hcs, ht⟩
  · cases h1
  · cases h1
    rw [blk_cell hg, ← ht, List.getElem?_take_of_lt hj]
    simp
theorem Own.form (h : Own w base e size v n xs) : ∃ a c, v = .slice a n c ∧ (a = none → n = 0 ∧ c = 0) ∧ ∀ x, a = some x → ∃ g, x = ⟨g, 0, none⟩ ∧ base ≤ g ∧ g < w.heap.size := by
  rcases h.2 with ⟨rfl, rfl⟩ | ⟨g, cap, cur, fr, rfl, hb, hg, _⟩
  · exact ⟨none, 0, rfl, (fun _ => ⟨rfl, rfl⟩), fun x hx => (by cases hx)⟩
  · exact ⟨_, cap, rfl, (fun hx => (by cases hx)), fun x hx => (by cases hx; exact ⟨g, rfl, hb, blk_lt hg⟩)⟩
theorem Own.cells (h : Own w base e size v n xs) {g : Nat} (hg : v.ownBlock = some g) : ∀ j u, xs[j]? = some u → w.cell? ((⟨g, 0, none⟩ : Addr).add j) = some u := by
  intro j u hj
  rcases h.2 with ⟨rfl, _⟩ | ⟨g', cap, cur, fr, rfl, _, hg', _, _, _, hcs, ht⟩
  · simp [Value.ownBlock] at hg
  · simp only [Value.ownBlock, Option.some.injEq] at hg
    subst hg
    have hadd : (⟨g', 0, none⟩ : Addr).add j = ⟨g', j, none⟩ := by unfold Addr.add; split <;> simp_all
    rw [hadd, blk_cell hg']
    have hjl : j < n * size := by
      rcases Nat.lt_or_ge j (n * size) with hlt | hge
      · exact hlt
      · rw [List.getElem?_eq_none (by rw [h.1]; exact hge)] at hj; cases hj
    rw [← ht, List.getElem?_take_of_lt hjl] at hj
    simpa using hj
theorem setArr (b : Nat) (t : TypeId) (fr : Nat × Nat) : ∀ (vs : List Value) (o : Nat) (w : World) (cur : Array Value), w.heap[b]? = some (.cells cur t fr) → o + vs.length ≤ cur.size →
    ∃ cur', (w.setCells b o vs).heap[b]? = some (.cells cur' t fr) ∧ cur'.size = cur.size ∧ cur'.toList.take (o + vs.length) = cur.toList.take o ++ vs
  | [], o, w, cur, h, _ => ⟨cur, h, rfl, by simp⟩
  | x :: vs, o, w, cur, h, hs => by
    simp only [List.length_cons] at hs
    obtain ⟨cur', h1, h2, h3⟩ := setArr b t fr vs (o + 1) (w.setCell ⟨b, o, none⟩ x) (cur.setIfInBounds o x) (blk_set h o x) (by simp; omega)
    refine ⟨cur', h1, by rw [h2]; simp, ?_⟩
    rw [List.length_cons, show o + (vs.length + 1) = o + 1 + vs.length by omega, h3]
    have : (cur.setIfInBounds o x).toList.take (o + 1) = cur.toList.take o ++ [x] := by
      rw [Array.toList_setIfInBounds, List.take_set, List.take_succ_eq_append_getElem (by simpa using by omega), List.set_append_right _ _ (by simp; omega)]
      simp [Nat.min_eq_left (show o ≤ cur.size by omega)]
    rw [this, List.append_assoc]; rfl
theorem setCells_other (b : Nat) : ∀ (vs : List Value) (o : Nat) (w : World) (k : Nat), k ≠ b → (w.setCells b o vs).heap[k]? = w.heap[k]?
  | [], _, _, _, _ => rfl
  | x :: vs, o, w, k, h => by rw [World.setCells, setCells_other b vs _ _ k h, Below.heap_setCell _ _ _ _ h]
theorem setCells_rest (b : Nat) : ∀ (vs : List Value) (o : Nat) (w : World), (w.setCells b o vs).os = w.os ∧ (w.setCells b o vs).tape = w.tape ∧ (w.setCells b o vs).output = w.output ∧ (w.setCells b o vs).heap.size = w.heap.size
  | [], _, _ => ⟨rfl, rfl, rfl, rfl⟩
  | x :: vs, o, w => by
    obtain ⟨h1, h2, h3, h4⟩ := setCells_rest b vs (o + 1) (w.setCell ⟨b, o, none⟩ x)
    exact ⟨h1, h2, h3, by rw [World.setCells, h4]; simp [World.setCell]⟩
theorem frozen_off {g : Nat} {cur : Array Value} {fr : Nat × Nat} (hg : w.heap[g]? = some (.cells cur e fr)) {cap : Nat} (hf : fr.1 = fr.2 ∨ cap ≤ fr.1) (j : Nat) (hj : j < cap) : w.frozen? ⟨g, j, none⟩ = false := by
  have : w.frozen? ⟨g, j, none⟩ = (decide (fr.1 ≤ j) && decide (j < fr.2)) := by simp [World.frozen?, hg]
  rw [this, Bool.and_eq_false_iff, decide_eq_false_iff_not, decide_eq_false_iff_not]
  omega
/-- A cell of the row within its capacity: it is there, and not frozen. -/
theorem row_spare {g cap : Nat} {cur : Array Value} {fr : Nat × Nat} (hg : w.heap[g]? = some (.cells cur e fr)) (hf : fr.1 = fr.2 ∨ cap ≤ fr.1) (hc : cap ≤ cur.size) (j : Nat) (hj : j < cap) :
    (w.cell? ⟨g, j, none⟩).isSome = true ∧ w.frozen? ⟨g, j, none⟩ = false := by
  refine ⟨?_, frozen_off hg hf j hj⟩
  rw [blk_cell hg, Array.getElem?_eq_getElem (by omega)]; rfl
theorem grown_setCells {g : Nat} (vs : List Value) (o : Nat) : w.grownBy (w.setCells g o vs) (some g) := by
  obtain ⟨h1, h2, h3, h4⟩ := setCells_rest g vs o w
  exact ⟨h1, h2, h3, by omega, fun k _ hk => setCells_other g vs o w k (fun he => hk (by rw [he]))⟩
theorem Own.put {g cap : Nat} {cur : Array Value} {fr : Nat × Nat} {news : List Value} {m : Nat} (hx : xs.length = n * size) (hb : base ≤ g) (hg : w.heap[g]? = some (.cells cur e fr)) (hf : fr.1 = fr.2 ∨ cap * size ≤ fr.1) (hcm : cap ≤ maxLen) (hcs : cap * size ≤ cur.size)
    (ht : cur.toList.take (n * size) = xs) (hl : news.length = m * size) (hroom : n + m ≤ cap) :
    Own (w.setCells g (n * size) news) base e size (.slice (some ⟨g, 0, none⟩) (n + m) cap) (n + m) (xs ++ news) := by
  have hmul : (n + m) * size ≤ cap * size := Nat.mul_le_mul_right _ hroom
  have hadd : (n + m) * size = n * size + m * size := Nat.add_mul _ _ _
  obtain ⟨cur', h1, h2, h3⟩ := setArr g e fr news (n * size) w cur hg (by omega)
  refine ⟨by rw [List.length_append, hx, hl, hadd], .inr ⟨g, cap, cur', fr, rfl, hb, h1, hf, hroom, hcm, by omega, ?_⟩⟩
  rw [hadd, ← hl, h3, ht]
/-- 'append(v, x...)', both slices. -/
theorem run_app (t ty : TypeId) (i : TypeInfo) (z : Value) (bytes : Nat) (ht : P.underlying t = some (.slice e)) (hi : P.info? e = some i) (hz : i.zero = some z)
    (hsize : i.size = size) (hby : i.bytes = bytes) (hzs : z.cells.size = size) (hsz : 0 < size) (hown : Own w base e size v n xs)
    (ad : Addr) (m c : Nat) (news : List Value) (hl : news.length = m * size) (hnews : ∀ j u, news[j]? = some u → w.cell? (ad.add j) = some u) (h1 : ∀ u ∈ news, u.oneCell' = true)
    (h63 : n + m ≤ maxLen) (hbytes : (n + m) * bytes ≤ 140737488355328) (hbase : base ≤ w.heap.size) :
    ∃ v' w', (Builtin.append_ #[t, t] ty #[v, .slice (some ad) m c]).run P w = .ok v' w' ∧ Own w' base e size v' (n + m) (xs ++ news) ∧ w.grownBy w' v.ownBlock ∧ (v'.ownBlock = v.ownBlock ∨ v'.ownBlock = some w.heap.size) := by
  rcases hown.2 with ⟨rfl, rfl⟩ | ⟨g, cap, cur, fr, rfl, hb, hg, hf, hnc, hcm, hcs, htk⟩
  · obtain rfl : xs = [] := List.eq_nil_of_length_eq_zero (by simpa using hown.1)
    obtain ⟨v', w', hr, h2, h3, _, h5⟩ := run_append_own_at (P := P) w base t ty e i z size bytes ht hi hz hsize hby hzs hsz (.slice none 0 0) 0 [] (World.ownsRow_nil w _ e size) ad m c news hl hnews h1 h63 hbytes hbase
    exact ⟨v', w', hr, .of h2, h3, h5⟩
  · subst hsize
    by_cases hroom : n + m ≤ cap
    · have hmul : (n + m) * i.size ≤ cap * i.size := Nat.mul_le_mul_right _ hroom
      have hadd : (n + m) * i.size = n * i.size + m * i.size := Nat.add_mul _ _ _
      have hsp : ∀ j, j < news.length → (w.cell? ⟨g, n * i.size + j, none⟩).isSome = true ∧ w.frozen? ⟨g, n * i.size + j, none⟩ = false := fun j hj => row_spare hg hf hcs _ (by omega)
      have hr := run_append_room_cells (P := P) w t ty e i ht hi g 0 n cap ad m c news hl hnews h1 hroom (fun j hj => by rw [Nat.zero_add]; exact (hsp j hj).1) (fun j hj => by rw [Nat.zero_add]; exact (hsp j hj).2)
      rw [Nat.zero_add] at hr
      exact ⟨_, _, hr, Own.put hown.1 hb hg hf hcm hcs htk hl hroom, grown_setCells _ _, .inl rfl⟩
    · obtain ⟨v', w', hr, h2, h3⟩ := run_append_arg_grows (P := P) w t ty e i z i.size bytes ht hi hz rfl hby hzs hsz ⟨g, 0, none⟩ n cap xs hown.1 (hown.cells rfl) ad m c news hl hnews (by omega) h63 hbytes
      have h4 : v'.ownBlock = some w.heap.size := by
        have hg := hr
        have hr2 := run_append_grow (P := P) w t ty e i z ht hi hz ⟨g, 0, none⟩ n cap xs hown.1 (hown.cells rfl) ad m c news hl hnews (by omega) (by simp only [maxLen] at h63; omega) (growslice_fits (by omega) (by rw [hby]; exact hbytes))
        rw [hr2] at hr
        cases hr
        rfl
      exact ⟨v', w', hr, (Own.of h2).mono hbase, ⟨h3.os, h3.tape, h3.output, h3.size, fun k hk _ => h3.block k hk (by simp)⟩, .inr h4⟩
/-- 'append(v, s...)', s a string. -/
theorem run_app_str (t u ty : TypeId) (i : TypeInfo) (ht : P.underlying t = some (.slice e)) (hu : P.underlying u = some .string) (hi : P.info? e = some i) (hz : i.zero = some (.int .u8 0)) (hsize : i.size = 1) (hby : i.bytes = 1)
    (hown : Own w base e 1 v n xs) (s : ByteArray) (h63 : n + s.size ≤ maxLen) (hbytes : n + s.size ≤ 140737488355328) (hbase : base ≤ w.heap.size) :
    ∃ v' w', (Builtin.append_ #[t, u] ty #[v, .string s]).run P w = .ok v' w' ∧ Own w' base e 1 v' (n + s.size) (xs ++ strCells s) ∧ w.grownBy w' v.ownBlock ∧ (v'.ownBlock = v.ownBlock ∨ v'.ownBlock = some w.heap.size) := by
  have hsl : (strCells s).length = s.size * 1 := by rw [strCells_length, Nat.mul_one]
  rcases hown.2 with ⟨rfl, rfl⟩ | ⟨g, cap, cur, fr, rfl, hb, hg, hf, hnc, hcm, hcs, htk⟩
  · obtain rfl : xs = [] := List.eq_nil_of_length_eq_zero (by simpa using hown.1)
    obtain ⟨v', w', hr, h2, h3, h4⟩ := run_append_own_string (P := P) w w.heap.size t u ty e i ht hu hi hz hsize hby (.slice none 0 0) 0 [] (World.ownsRow_nil w _ e 1) s h63 hbytes (Nat.le_refl _)
    refine ⟨v', w', hr, (Own.of h2).mono hbase, h3, ?_⟩
    by_cases h0 : s.size = 0
    · exact .inl (by rw [h4.2 ⟨rfl, h0⟩])
    · have hr2 := run_append_nil_string (P := P) w t u ty e i (.int .u8 0) ht hu hi hz s (by omega) (by simp only [maxLen] at h63; omega) (by rw [hby]; omega)
      rw [hr2] at hr
      cases hr
      exact .inr rfl
  · by_cases hroom : n + s.size ≤ cap
    · have hsp : ∀ j, j < (strCells s).length → (w.cell? ⟨g, n + j, none⟩).isSome = true ∧ w.frozen? ⟨g, n + j, none⟩ = false := fun j hj => row_spare hg hf hcs _ (by rw [strCells_length] at hj; omega)
      have hfc := run_firstCells_string (P := P) w 1 s
      have hst := run_storeCells_cells (P := P) g 0 (strCells s) n w (by simpa using fun j hj => (hsp j hj).1) (by simpa using fun j hj => (hsp j hj).2) (strCells_oneCell s)
      have hr : (Builtin.append_ #[t, u] ty #[.slice (some ⟨g, 0, none⟩) n cap, .string s]).run P w = .ok (.slice (some ⟨g, 0, none⟩) (n + s.size) cap) (w.setCells g n (strCells s)) := by
        simp only [Nat.zero_add] at hst
        have hadd : (⟨g, 0, none⟩ : Addr).add n = ⟨g, n, none⟩ := by unfold Addr.add; split <;> simp_all
        have hst' : (storeCells ⟨g, n, none⟩ (strCells s) 0).run P w = .ok () (w.setCells g n (strCells s)) := by
          have := run_storeCells_cells (P := P) g n (strCells s) 0 w (by simpa using fun j hj => (hsp j hj).1) (by simpa using fun j hj => (hsp j hj).2) (strCells_oneCell s)
          simpa using this
        simp [Builtin.append_, run_underlying ht, run_underlying hu, sizeOf, typeInfo, hi, hsize, Builtin.lenOf, hroom, hfc, hadd, hst']
      have hput := Own.put (news := strCells s) (m := s.size) hown.1 hb hg hf hcm hcs htk hsl hroom
      rw [Nat.mul_one] at hput
      exact ⟨_, _, hr, hput, grown_setCells _ _, .inl rfl⟩
    · have hr := run_append_grow_string (P := P) w t u ty e i (.int .u8 0) ht hu hi hz ⟨g, 0, none⟩ n cap xs (by rw [hsize]; exact hown.1) (hown.cells rfl) s (by omega) (by simp only [maxLen] at h63; omega) (by rw [hby]; exact growslice_fits (by omega) (by omega))
      have hge := grownCap_ge w (n + s.size) cap e
      have hcm2 : grownCap w (n + s.size) cap e ≤ maxLen := grownCap_le_maxLen w (n + s.size) cap e h63
      have hxl : xs.length = n := by simpa using hown.1
      refine ⟨_, _, hr, ⟨by rw [List.length_append, hxl, strCells_length, Nat.mul_one], .inr ⟨w.heap.size, _, _, (0, 0), rfl, hbase, heap_alloc_new w.drew _, .inl rfl, hge, hcm2, ?_, ?_⟩⟩, ⟨rfl, rfl, rfl, by simp, fun k hk _ => Below.heap_alloc w.drew _ k hk⟩, .inr rfl⟩
      · have hz1 : (Value.int IntKind.u8 0).cells.size = 1 := rfl
        simp only [Array.size_append, List.size_toArray, size_zeroCells, hz1, hxl, strCells_length]
        omega
      · simp only [Array.toList_append, List.append_assoc]
        rw [← List.append_assoc, show (n + s.size) * 1 = (xs ++ strCells s).length by rw [List.length_append, hxl, strCells_length, Nat.mul_one]]
        exact List.take_left
end
end Go.Proofs.Ytkdakmddlkgjkaa
