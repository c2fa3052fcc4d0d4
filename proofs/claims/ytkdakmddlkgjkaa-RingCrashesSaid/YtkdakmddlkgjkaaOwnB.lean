import Derived.Great.BuildSlice
import Derived.Test.YtkdakmddlkgjkaaOwn
import Derived.Test.YtkdakmddlkgjkaaPlan
import Derived.Test.YtkdakmddlkgjkaaChecked
namespace Go.Proofs.Ytkdakmddlkgjkaa
set_option maxRecDepth 100000
open Go.RowKit Go.Lib
section
variable {P : Program} {ops : Array Oper} {Q : Exit → Act → World → Prop} {rest : List Oper} {dst : Option Tmp} {ty : TypeId} {pos : String} {aft : Array Edge} {a : Act} {w : World}
  {St : World → World → Prop} {K : Act → World → Prop} {o : Oper} {r : List Oper}
theorem wpF_plain (hg : o.guard = none) (h : o.wp P a w (fun a' w' => St w w' ∧ wpF P ops Q St K r a' w') Q) : wpF P ops Q St K (o :: r) a w := by
  unfold wpF
  rw [if_pos (by simp [Region.wanted, hg])]
  exact h
theorem wpF_nil (h : K a w) : wpF P ops Q St K [] a w := h
/-- append, both slices, onto an owned row -/
theorem W_app {base e size : Nat} {v : Value} {n : Nat} {xs : List Value} (t : TypeId) (s x : Operand) (i : TypeInfo) (z : Value) (bytes : Nat)
    (hT : P.underlying t = some (.slice e) ∧ P.info? e = some i ∧ i.zero = some z ∧ i.size = size ∧ i.bytes = bytes ∧ z.cells.size = size ∧ 0 < size)
    (hs : a.eval s = v) (hown : Own w base e size v n xs) (ad : Addr) (m c : Nat) (news : List Value) (hx : a.eval x = .slice (some ad) m c)
    (hn : news.length = m * size ∧ (∀ j u, news[j]? = some u → w.cell? (ad.add j) = some u) ∧ ∀ u ∈ news, u.oneCell' = true)
    (hb : n + m ≤ maxLen ∧ (n + m) * bytes ≤ 140737488355328 ∧ base ≤ w.heap.size)
    (h : ∀ v' w', Own w' base e size v' (n + m) (xs ++ news) → w.grownBy w' v.ownBlock → (v'.ownBlock = v.ownBlock ∨ v'.ownBlock = some w.heap.size) → K (a.put dst v') w') :
    Oper.wp P ⟨dst, .call { callee := .builtin .append, args := #[s, x], argTypes := #[t, t] }, ty, pos, aft, none⟩ a w K Q := by
  obtain ⟨v', w', hr, h2, h3, h4⟩ := run_app (P := P) t ty i z bytes hT.1 hT.2.1 hT.2.2.1 hT.2.2.2.1 hT.2.2.2.2.1 hT.2.2.2.2.2.1 hT.2.2.2.2.2.2 hown ad m c news hn.1 hn.2.1 hn.2.2 hb.1 hb.2.1 hb.2.2
  unfold Oper.wp execOp
  simp only [resolve, invoke, builtin, Sem.run_bind, Sem.run_pure, Result.andThen_ok, List.map_toArray, List.map_cons, List.map_nil, hs, hx, hr]
  exact h v' w' h2 h3 h4
/-- append of a string -/
theorem W_appstr {base e : Nat} {v : Value} {n : Nat} {xs : List Value} (t u : TypeId) (sl x : Operand) (i : TypeInfo)
    (hT : P.underlying t = some (.slice e) ∧ P.underlying u = some .string ∧ P.info? e = some i ∧ i.zero = some (.int .u8 0) ∧ i.size = 1 ∧ i.bytes = 1)
    (hs : a.eval sl = v) (hown : Own w base e 1 v n xs) (s : ByteArray) (hx : a.eval x = .string s)
    (hb : n + s.size ≤ maxLen ∧ n + s.size ≤ 140737488355328 ∧ base ≤ w.heap.size)
    (h : ∀ v' w', Own w' base e 1 v' (n + s.size) (xs ++ strCells s) → w.grownBy w' v.ownBlock → (v'.ownBlock = v.ownBlock ∨ v'.ownBlock = some w.heap.size) → K (a.put dst v') w') :
    Oper.wp P ⟨dst, .call { callee := .builtin .append, args := #[sl, x], argTypes := #[t, u] }, ty, pos, aft, none⟩ a w K Q := by
  obtain ⟨v', w', hr, h2, h3, h4⟩ := run_app_str (P := P) t u ty i hT.1 hT.2.1 hT.2.2.1 hT.2.2.2.1 hT.2.2.2.2.1 hT.2.2.2.2.2 hown s hb.1 hb.2.1 hb.2.2
  unfold Oper.wp execOp
  simp only [resolve, invoke, builtin, Sem.run_bind, Sem.run_pure, Result.andThen_ok, List.map_toArray, List.map_cons, List.map_nil, hs, hx, hr]
  exact h v' w' h2 h3 h4
/-- a slice literal of elements of one cell -/
theorem W_build (t e : TypeId) (len : Nat) (xs : List Operand) (vs : List Value)
    (hT : P.underlying t = some (.slice e) ∧ (P.info? e).map (·.size) = some 1 ∧ ((P.info? e).bind (·.zero)).isSome = true)
    (hv : xs.map a.eval = vs ∧ len = vs.length ∧ 0 < len ∧ len ≤ 2 ^ 24 ∧ ∀ v ∈ vs, v.cells = #[v])
    (h : K (a.put dst (.slice (some ⟨w.heap.size, 0, none⟩) len len)) (w.alloc (.cells vs.toArray e))) :
    Oper.wp P ⟨dst, .buildSlice t len (xs.zipIdx.map fun x => (x.2, x.1)).toArray, ty, pos, aft, none⟩ a w K Q := by
  obtain ⟨h1, h2, h3⟩ := hT
  obtain ⟨hv1, hv2, hv3, hv4, hv5⟩ := hv
  cases hie : P.info? e with
  | none => simp [hie] at h2
  | some ie =>
    simp only [hie, Option.map_some, Option.some.injEq, Option.bind_some] at h2 h3
    obtain ⟨z, hz⟩ := Option.isSome_iff_exists.1 h3
    refine wp_buildSlice t e len _ rfl vs.toArray ie z h1 hie hz (by rw [h2]; omega) (by rw [h2]; omega) ?_ h
    rw [h2]
    have he : ((xs.zipIdx.map fun x => (x.2, x.1)).toArray.map fun (i, x) => (i, a.eval x)).toList = (vs.zipIdx 0).map fun x => (x.2, x.1) := by
      rw [← hv1, List.zipIdx_map]
      simp
    rw [he]
    exact Great.fill_flat vs _ hv5 (by simp [hv2])
end
/-! ### Bytes -/
def b8 (b : UInt8) : Value := .int .u8 (b.toNat : Int)
def OwnB (w : World) (base : Nat) (v : Value) (l : List UInt8) : Prop := Own w base 5 1 v l.length (l.map b8)
theorem b8_cells (l : List UInt8) : ∀ v ∈ l.map b8, v.cells = #[v] := by
  intro v hv
  obtain ⟨b, _, rfl⟩ := List.mem_map.1 hv
  rfl
theorem b8_one (l : List UInt8) : ∀ v ∈ l.map b8, v.oneCell' = true := by
  intro v hv
  obtain ⟨b, _, rfl⟩ := List.mem_map.1 hv
  rfl
theorem info_u8 : (Try.prog.info? 5).map (fun i => (i.zero, i.size, i.bytes)) = some (some (.int .u8 0), 1, 1) := by kernel_rfl
theorem OwnB.nil (w : World) (base : Nat) : OwnB w base (.slice none 0 0) [] := Own.nil w base _ 1
theorem OwnB.keep {w w' : World} {base : Nat} {v : Value} {l : List UInt8} (h : OwnB w base v l) (hk : ∀ k, v.ownBlock = some k → w'.heap[k]? = w.heap[k]?) : OwnB w' base v l := Own.keep h hk
theorem OwnB.below {w w' : World} {base : Nat} {v : Value} {l : List UInt8} (h : OwnB w base v l) (hb : Below w.heap.size w w') : OwnB w' base v l := Own.below h hb
theorem OwnB.alloc {w : World} {base : Nat} {v : Value} {l : List UInt8} (h : OwnB w base v l) (o : Obj) : OwnB (w.alloc o) base v l := Own.alloc h o
/-- A literal's block, just made. -/
theorem OwnB.lit (w : World) (base N : Nat) (l : List UInt8) (cells : Array Value) (hc : cells = (l.map b8).toArray) (hN : w.heap.size = N) (hb : base ≤ N) (hl : 0 < l.length ∧ l.length ≤ 140737488355328) (m : Nat) (hm : m = l.length) :
    OwnB (w.alloc (.cells cells 5)) base (.slice (some ⟨N, 0, none⟩) m m) l := by
  subst hc hm
  exact ⟨by simp, .inr ⟨N, l.length, _, (0, 0), rfl, hb, blk_new w _ _ _ _ hN, .inl rfl, Nat.le_refl _, by simp only [maxLen]; omega, by simp, by rw [List.toList_toArray, Nat.mul_one, List.take_of_length_le (by simp)]⟩⟩
theorem OwnB.form {w : World} {base : Nat} {v : Value} {l : List UInt8} (h : OwnB w base v l) (n : Nat) (hn : n = l.length) : ∃ a c, v = .slice a n c := by
  subst hn
  obtain ⟨a, c, h1, _⟩ := Own.form h
  exact ⟨a, c, h1⟩
theorem OwnB.lt {w : World} {base : Nat} {v : Value} {l : List UInt8} (h : OwnB w base v l) : ∀ k, v.ownBlock = some k → base ≤ k ∧ k < w.heap.size := Own.lt h
/-- Behind an append: what was below 'B' is as it was, if the row lies from B on. -/
theorem Below.app {B : Nat} {a w w' : World} {v : Value} {e size n base : Nat} {xs : List Value} (h : Below B a w) (hg : w.grownBy w' v.ownBlock) (hown : Own w base e size v n xs) (hB : B ≤ w.heap.size) (hb : B ≤ base) : Below B a w' :=
  h.grown hg hB fun k hk => Nat.le_trans hb (hown.lt k hk).1
theorem strCells_b8 (s : ByteArray) : strCells s = s.data.toList.map b8 := by
  unfold strCells b8
  simp
section
variable {ops : Array Oper} {Q : Exit → Act → World → Prop} {dst : Option Tmp} {ty : TypeId} {pos : String} {aft : Array Edge} {a : Act} {w : World} {K : Act → World → Prop} {base : Nat} {v : Value} {l : List UInt8}
/-- append onto bytes of the call's own, out of a block that is known whole -/
theorem W_appB (s x : Operand) (g c : Nat) (news : List UInt8) (fr : Nat × Nat) (rest : List Value) (hown : OwnB w base v l)
    (hp : a.eval s = v ∧ a.eval x = .slice (some ⟨g, 0, none⟩) news.length c ∧ w.heap[g]? = some (.cells (news.map b8 ++ rest).toArray 5 fr) ∧ l.length + news.length ≤ 140737488355328 ∧ base ≤ w.heap.size)
    (h : ∀ v' w', OwnB w' base v' (l ++ news) → w.grownBy w' v.ownBlock → (v'.ownBlock = v.ownBlock ∨ v'.ownBlock = some w.heap.size) → K (a.put dst v') w') :
    Oper.wp Try.prog ⟨dst, .call { callee := .builtin .append, args := #[s, x], argTypes := #[38, 38] }, ty, pos, aft, none⟩ a w K Q := by
  obtain ⟨i, hi, hz, hs, hb⟩ := info_parts info_u8
  obtain ⟨h1, h2, h3, h4, h5⟩ := hp
  refine W_app _ s x i _ 1 ⟨Try.underlying38, hi, hz, hs, hb, rfl, by omega⟩ h1 hown ⟨g, 0, none⟩ news.length c (news.map b8) h2 ⟨by simp, ?_, b8_one _⟩ ⟨by simp only [maxLen]; omega, by omega, h5⟩ ?_
  · intro j u hj
    have hadd : (⟨g, 0, none⟩ : Addr).add j = ⟨g, j, none⟩ := by unfold Addr.add; split <;> simp_all
    have hjl : j < (news.map b8).length := by
      rcases Nat.lt_or_ge j (news.map b8).length with h | h
      · exact h
      · rw [List.getElem?_eq_none h] at hj; cases hj
    rw [hadd, blk_cell h3, List.getElem?_toArray, List.getElem?_append_left hjl]
    exact hj
  · intro v' w' hown' hg hat
    exact h v' w' (by unfold OwnB; rw [List.length_append, List.map_append]; exact hown') hg hat
/-- append of a string onto bytes of the call's own -/
theorem W_appS (s x : Operand) (str : ByteArray) (hown : OwnB w base v l)
    (hp : a.eval s = v ∧ a.eval x = .string str ∧ l.length + str.size ≤ 140737488355328 ∧ base ≤ w.heap.size)
    (h : ∀ v' w', OwnB w' base v' (l ++ str.data.toList) → w.grownBy w' v.ownBlock → (v'.ownBlock = v.ownBlock ∨ v'.ownBlock = some w.heap.size) → K (a.put dst v') w') :
    Oper.wp Try.prog ⟨dst, .call { callee := .builtin .append, args := #[s, x], argTypes := #[38, 9] }, ty, pos, aft, none⟩ a w K Q := by
  obtain ⟨i, hi, hz, hs, hb⟩ := info_parts info_u8
  obtain ⟨h1, h2, h3, h4⟩ := hp
  refine W_appstr _ _ s x i ⟨Try.underlying38, Try.underlying9, hi, hz, hs, hb⟩ h1 hown str h2 ⟨by simp only [maxLen]; omega, h3, h4⟩ ?_
  intro v' w' hown' hg hat
  refine h v' w' ?_ hg hat
  unfold OwnB
  rw [List.length_append, List.map_append, ← strCells_b8]
  simpa using hown'
/-- a literal of bytes -/
theorem W_buildB (len : Nat) (xs : List Operand) (news : List UInt8)
    (hp : xs.map a.eval = news.map b8 ∧ len = news.length ∧ 0 < len ∧ len ≤ 2 ^ 24)
    (h : K (a.put dst (.slice (some ⟨w.heap.size, 0, none⟩) len len)) (w.alloc (.cells (news.map b8).toArray 5))) :
    Oper.wp Try.prog ⟨dst, .buildSlice 38 len (xs.zipIdx.map fun x => (x.2, x.1)).toArray, ty, pos, aft, none⟩ a w K Q :=
  W_build _ _ len xs (news.map b8) ⟨Try.underlying38, by kernel_rfl, by kernel_rfl⟩ ⟨hp.1, by rw [List.length_map]; exact hp.2.1, hp.2.2.1, hp.2.2.2, b8_cells _⟩ h
/-- make([]byte, 0, n) -/
theorem W_make0B (n : Nat) (x y : Operand)
    (hp : (∃ k, a.eval x = .int k 0) ∧ (∃ k, a.eval y = .int k (n : Int)) ∧ n ≤ 140737488355328)
    (h : ∀ w', OwnB w' w.heap.size (.slice (some ⟨w.heap.size, 0, none⟩) 0 n) [] → w.grownBy w' none → K (a.put dst (.slice (some ⟨w.heap.size, 0, none⟩) 0 n)) w') :
    Oper.wp Try.prog ⟨dst, .makeSlice 38 x y, ty, pos, aft, none⟩ a w K Q := by
  obtain ⟨i, hi, hz, hs, hb⟩ := info_parts info_u8
  obtain ⟨⟨k, h1⟩, ⟨k', h2⟩, h3⟩ := hp
  obtain ⟨w', hr, r1, r2⟩ := run_make_own (P := Try.prog) w w.heap.size 38 5 i (.int .u8 0) 1 Try.underlying38 hi hz hs k k' n (by rw [hb]; omega) (by simp only [maxLen]; omega) (Nat.le_refl _)
  unfold Oper.wp execOp
  simp only [h1, h2, Sem.run_bind, hr, Result.andThen_ok]
  exact h w' (Own.of r1) r2
/-- make([]byte, n) -/
theorem W_makeB (n : Nat) (x y : Operand)
    (hp : (∃ k, a.eval x = .int k (n : Int)) ∧ (∃ k, a.eval y = .int k (n : Int)) ∧ n ≤ 140737488355328)
    (h : ∀ w', OwnB w' w.heap.size (.slice (some ⟨w.heap.size, 0, none⟩) n n) (List.replicate n 0) → w.grownBy w' none → K (a.put dst (.slice (some ⟨w.heap.size, 0, none⟩) n n)) w') :
    Oper.wp Try.prog ⟨dst, .makeSlice 38 x y, ty, pos, aft, none⟩ a w K Q := by
  obtain ⟨i, hi, hz, hs, hb⟩ := info_parts info_u8
  obtain ⟨⟨k, h1⟩, ⟨k', h2⟩, h3⟩ := hp
  obtain ⟨w', hr, r1, r2⟩ := run_make_full (P := Try.prog) w w.heap.size 38 5 i (.int .u8 0) 1 Try.underlying38 hi hz hs k k' n (by rw [hb]; omega) (by simp only [maxLen]; omega) (Nat.le_refl _)
  unfold Oper.wp execOp
  simp only [h1, h2, Sem.run_bind, hr, Result.andThen_ok]
  refine h w' ?_ r2
  have := Own.of r1
  unfold OwnB
  rw [List.length_replicate]
  have he : (madeCells (Value.int .u8 0).cells (n * 1)).toList = (List.replicate n (0 : UInt8)).map b8 := by
    rw [List.map_replicate, Nat.mul_one]
    apply List.ext_getElem
    · simp [size_madeCells]
    · intro j h1 h2
      have hz : (Value.int IntKind.u8 0).cells = #[.int .u8 0] := rfl
      simp [madeCells, hz, b8, Nat.mod_one]
  rwa [he] at this
/-- string(b) -/
theorem run_strof (src : TypeId) (hown : OwnB w base v l) (hs : Try.prog.underlying src = some (.slice 5)) : ∀ d, Try.prog.underlying d = some .string → (convert src d v).run Try.prog w = .ok (.string ⟨l.toArray⟩) w := by
  intro d hd
  rcases hown.2 with ⟨rfl, h0⟩ | ⟨g, cap, cur, fr, rfl, hb, hg, hf, hnc, hcm, hcs, htk⟩
  · have : l = [] := List.eq_nil_of_length_eq_zero h0
    subst this
    rw [run_convert_bytes_nil w src 5 hs Try.underlying5 0 0 d hd]
    rfl
  · have := run_convert_bytes_arg (P := Try.prog) w src 5 hs Try.underlying5 g 0 l.length cap (l.map fun b => (b.toNat : Int)) (by simp) (fun i hi => by
      rw [Nat.zero_add, Own.cell hown i (by omega), List.getElem?_map, List.getElem?_eq_getElem hi, List.getD_eq_getElem?_getD, List.getElem?_map, List.getElem?_eq_getElem hi]; rfl) d hd
    rw [this]
    congr 2
    unfold strOfNums
    rw [List.map_map]
    congr 1
    have : ((fun n : Int => UInt8.ofNat n.toNat) ∘ fun b : UInt8 => (b.toNat : Int)) = id := by
      funext b; simp
    rw [this, List.map_id]
end
end Go.Proofs.Ytkdakmddlkgjkaa
