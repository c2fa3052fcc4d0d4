import Derived.Outline
import Derived.Test.YtkdakmddlkgjkaaRg3
import Derived.Test.YtkdakmddlkgjkaaDk6
open Go.RowKit Go.Lib
namespace Go.Proofs.Ytkdakmddlkgjkaa
set_option maxRecDepth 100000
/-! Entries in a slice. -/
def ecell (e : En) : List Value := [.int .i64 e.k, .int .i64 e.n, .int .i64 e.sl, .int .i64 e.sz, .string ⟨e.sum.toArray⟩]
def ecells (l : List En) : List Value := l.flatMap ecell
theorem ecells_len (l : List En) : (ecells l).length = l.length * 5 := by
  induction l with
  | nil => rfl
  | cons e l ih => simp only [ecells, List.flatMap_cons, List.length_append, List.length_cons, ecell, List.length_nil] at ih ⊢; omega
theorem ecells_append (l m : List En) : ecells (l ++ m) = ecells l ++ ecells m := by simp [ecells]
theorem ecells_take : ∀ (l : List En) (k : Nat), (ecells l).take (k * 5) = ecells (l.take k)
  | [], k => by simp [ecells]
  | e :: l, 0 => by simp [ecells]
  | e :: l, k + 1 => by
    have h : ecells (e :: l) = .int .i64 e.k :: .int .i64 e.n :: .int .i64 e.sl :: .int .i64 e.sz :: .string ⟨e.sum.toArray⟩ :: ecells l := rfl
    have h2 : ecells (e :: l.take k) = .int .i64 e.k :: .int .i64 e.n :: .int .i64 e.sl :: .int .i64 e.sz :: .string ⟨e.sum.toArray⟩ :: ecells (l.take k) := rfl
    rw [List.take_succ_cons, h, h2, Nat.add_mul, ← ecells_take l k]
    rfl
theorem ecells_drop (l : List En) (k : Nat) : (ecells l).drop (k * 5) = ecells (l.drop k) := by
  by_cases h : k ≤ l.length
  · have e : ecells l = ecells (l.take k) ++ ecells (l.drop k) := by rw [← ecells_append, List.take_append_drop]
    have hl : (ecells (l.take k)).length = k * 5 := by rw [ecells_len, List.length_take, Nat.min_eq_left h]
    rw [e, List.drop_left' hl]
  · rw [List.drop_of_length_le (by rw [ecells_len]; omega), List.drop_of_length_le (by omega)]; rfl
theorem ecells_at (l : List En) (k : Nat) (h : k < l.length) (j : Nat) (hj : j < 5) : (ecells l)[k * 5 + j]? = (ecell l[k])[j]? := by
  have e : (ecells l)[k * 5 + j]? = ((ecells l).drop (k * 5))[j]? := by rw [List.getElem?_drop]
  rw [e, ecells_drop, List.drop_eq_getElem_cons h]
  show (ecell l[k] ++ ecells (l.drop (k + 1)))[j]? = _
  rw [List.getElem?_append_left (by exact hj)]
theorem ecells_one (l : List En) : ∀ u ∈ ecells l, u.oneCell' = true := by
  intro u hu
  obtain ⟨p, _, hp⟩ := List.mem_flatMap.1 hu
  simp only [ecell, List.mem_cons, List.not_mem_nil, or_false] at hp
  rcases hp with rfl | rfl | rfl | rfl | rfl <;> rfl
def OwnE (w : World) (base : Nat) (v : Value) (l : List En) : Prop := Own w base 28 5 v l.length (ecells l)
theorem info_ent : (Try.prog.info? 28).map (fun i => (i.zero, i.size, i.bytes)) = some (some (.agg #[.int .i64 0, .int .i64 0, .int .i64 0, .int .i64 0, .string ⟨#[]⟩]), 5, 48) := by kernel_rfl
section
variable {w w' : World} {base : Nat} {v : Value} {l : List En}
theorem OwnE.form (h : OwnE w base v l) : ∃ a c, v = .slice a l.length c ∧ l.length ≤ c ∧ (a = none → l.length = 0 ∧ c = 0) ∧ ∀ x, a = some x → ∃ g, x = ⟨g, 0, none⟩ ∧ base ≤ g ∧ g < w.heap.size := by
  rcases h.2 with ⟨rfl, h0⟩ | ⟨g, cap, cur, fr, rfl, hb, hg, hf, hnc, hcm, hcs, htk⟩
  · exact ⟨none, 0, by rw [h0], by omega, (fun _ => ⟨h0, rfl⟩), (fun x hx => by cases hx)⟩
  · exact ⟨_, cap, rfl, hnc, (fun hx => by cases hx), (fun x hx => by cases hx; exact ⟨g, rfl, hb, blk_lt hg⟩)⟩
/-- v[:k:k] -/
theorem OwnE.cap {a : Option Addr} {n c : Nat} (h : OwnE w base (.slice a n c) l) (k : Nat) (hk : k ≤ l.length) : OwnE w base (.slice a k k) (l.take k) := by
  have hl : (l.take k).length = k := by simp; omega
  unfold OwnE at h ⊢
  rw [hl]
  refine ⟨by rw [ecells_len, hl], ?_⟩
  rcases h.2 with ⟨he, h0⟩ | ⟨g, cap, cur, fr, he, hb, hg, hf, hnc, hcm, hcs, htk⟩
  · cases he
    have : k = 0 := by omega
    subst this
    exact .inl ⟨rfl, rfl⟩
  · cases he
    refine .inr ⟨g, k, cur, fr, rfl, hb, hg, ?_, Nat.le_refl _, by omega, by omega, ?_⟩
    · rcases hf with h1 | h1
      · exact .inl h1
      · exact .inr (by omega)
    · rw [← ecells_take, ← htk, List.take_take, Nat.min_eq_left (by omega)]
theorem OwnE.cells {g n c : Nat} (h : OwnE w base (.slice (some ⟨g, 0, none⟩) n c) l) (k : Nat) (hk : k < l.length) (j : Nat) (hj : j < 5) : w.cell? ⟨g, k * 5 + j, none⟩ = (ecell l[k])[j]? := by
  have hn : n = l.length := by
    rcases h.2 with ⟨he, h0⟩ | ⟨g, cap, cur, fr, he, _⟩ <;> cases he <;> rfl
  subst hn
  rw [Own.cell h _ (by omega), ecells_at l k hk j hj]
end
section
variable {ops : Array Oper} {Q : Exit → Act → World → Prop} {dst : Option Tmp} {ty : TypeId} {pos : String} {aft : Array Edge} {a : Act} {w : World} {K : Act → World → Prop} {base : Nat} {v : Value} {l : List En}
/-- entries are appended -/
theorem W_appE (s x : Operand) (ad : Addr) (m c : Nat) (news : List En) (hown : OwnE w base v l)
    (hp : a.eval s = v ∧ a.eval x = .slice (some ad) m c ∧ news.length = m ∧ (∀ j u, (ecells news)[j]? = some u → w.cell? (ad.add j) = some u) ∧ l.length + m < 1000000000 ∧ base ≤ w.heap.size)
    (h : ∀ v' w', OwnE w' base v' (l ++ news) → w.grownBy w' v.ownBlock → (v'.ownBlock = v.ownBlock ∨ v'.ownBlock = some w.heap.size) → K (a.put dst v') w') :
    Oper.wp Try.prog ⟨dst, .call { callee := .builtin .append, args := #[s, x], argTypes := #[40, 40] }, ty, pos, aft, none⟩ a w K Q := by
  obtain ⟨inf, hi, hz, hs, hb⟩ := info_parts info_ent
  obtain ⟨h1, h2, h3, h4, h5, h6⟩ := hp
  refine W_app _ s x inf _ 48 ⟨Try.underlying40, hi, hz, hs, hb, rfl, by omega⟩ h1 hown ad m c (ecells news) h2 ⟨by rw [ecells_len, h3], h4, ecells_one _⟩ ⟨by simp only [maxLen]; omega, by omega, h6⟩ ?_
  intro v' w' hown' hg hat
  exact h v' w' (by unfold OwnE; rw [List.length_append, ecells_append, h3]; exact hown') hg hat
/-- .. onto a row that has no room: nothing that was is written. -/
theorem W_appG (s x : Operand) (g n cp : Nat) (ad : Addr) (m c : Nat) (news : List En) (hown : OwnE w base (.slice (some ⟨g, 0, none⟩) n cp) l)
    (hp : a.eval s = .slice (some ⟨g, 0, none⟩) n cp ∧ a.eval x = .slice (some ad) m c ∧ news.length = m ∧ (∀ j u, (ecells news)[j]? = some u → w.cell? (ad.add j) = some u) ∧ l.length + m < 1000000000 ∧ base ≤ w.heap.size ∧ cp < l.length + m)
    (h : ∀ v' w', OwnE w' w.heap.size v' (l ++ news) → Below w.heap.size w w' → K (a.put dst v') w') :
    Oper.wp Try.prog ⟨dst, .call { callee := .builtin .append, args := #[s, x], argTypes := #[40, 40] }, ty, pos, aft, none⟩ a w K Q := by
  obtain ⟨inf, hi, hz, hs, hb⟩ := info_parts info_ent
  obtain ⟨h1, h2, h3, h4, h5, h6, h7⟩ := hp
  have hn : n = l.length := by
    rcases hown.2 with ⟨he, h0⟩ | ⟨g, cap, cur, fr, he, _⟩ <;> cases he <;> rfl
  subst hn
  obtain ⟨v', w', hr, h8, h9⟩ := run_append_arg_grows (P := Try.prog) w _ ty _ inf _ 5 48 Try.underlying40 hi hz hs hb rfl (by omega) ⟨g, 0, none⟩ l.length cp (ecells l) hown.1 (Own.cells hown rfl) ad m c (ecells news) (by rw [ecells_len, h3]) h4 (by omega) (by simp only [maxLen]; omega) (by omega)
  unfold Oper.wp execOp
  simp only [resolve, invoke, builtin, Sem.run_bind, Sem.run_pure, Result.andThen_ok, List.map_toArray, List.map_cons, List.map_nil, h1, h2, hr]
  exact h v' w' (by unfold OwnE; rw [List.length_append, ecells_append, h3]; exact Own.of h8) ((Below.refl _ _).grown h9 (Nat.le_refl _) (by simp))
end
end Go.Proofs.Ytkdakmddlkgjkaa
