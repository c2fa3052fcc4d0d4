import Derived.Test.YtkdakmddlkgjkaaSha
namespace Go.Proofs.Ytkdakmddlkgjkaa
set_option maxRecDepth 100000
/-! Plain: numbers in bytes, a disk, entries of the journal. No program here. -/
def Wd (w : Nat) : Prop := w = 1 ∨ w = 2 ∨ w = 4 ∨ w = 8
/-- the bytes of a number, the least one first -/
def le (n : Int) (w : Nat) : List UInt8 := (List.range w).map fun i => UInt8.ofNat (n / 2 ^ (8 * i) % 256).toNat
theorem le_len (n : Int) (w : Nat) : (le n w).length = w := by simp [le]
/-- the number of bytes, the least one first -/
def gn : List UInt8 → Nat
  | [] => 0
  | b :: r => b.toNat + 256 * gn r
theorem gn_lt : ∀ l : List UInt8, gn l < 2 ^ (8 * l.length)
  | [] => by simp [gn]
  | b :: r => by
    have h := gn_lt r
    have hb := b.toNat_lt
    have e : 2 ^ (8 * (b :: r).length) = 256 * 2 ^ (8 * r.length) := by
      rw [List.length_cons, Nat.mul_add, Nat.pow_add, Nat.mul_comm]
    rw [e, gn]
    omega
theorem gn_append (l m : List UInt8) : gn (l ++ m) = gn l + 2 ^ (8 * l.length) * gn m := by
  induction l with
  | nil => simp [gn]
  | cons b r ih =>
    have e : 2 ^ (8 * (r.length + 1)) = 256 * 2 ^ (8 * r.length) := by
      rw [Nat.mul_add, Nat.pow_add, Nat.mul_comm]
    rw [List.cons_append, gn, gn, ih, List.length_cons, e, Nat.mul_add, Nat.mul_assoc]
    omega
theorem le_succ (n : Nat) (w : Nat) : le n (w + 1) = le n w ++ [UInt8.ofNat (n / 2 ^ (8 * w) % 256)] := by
  unfold le
  rw [List.range_succ, List.map_append]
  rfl
theorem gn_le (n w : Nat) : gn (le n w) = n % 2 ^ (8 * w) := by
  induction w with
  | zero => simp [le, gn, Nat.mod_one]
  | succ w ih =>
    rw [le_succ, gn_append, ih, le_len]
    have e : (UInt8.ofNat (n / 2 ^ (8 * w) % 256)).toNat = n / 2 ^ (8 * w) % 256 := by
      rw [UInt8.toNat_ofNat']; omega
    simp only [gn, e, Nat.mul_zero, Nat.add_zero]
    rw [Nat.mul_add 8, Nat.pow_add, Nat.mod_mul]
theorem gn_inj : ∀ l m : List UInt8, l.length = m.length → gn l = gn m → l = m
  | [], [], _, _ => rfl
  | [], _ :: _, h, _ => by simp at h
  | _ :: _, [], h, _ => by simp at h
  | b :: r, c :: s, h, e => by
    simp only [gn] at e
    have hb := b.toNat_lt
    have hc := c.toNat_lt
    have e1 : b.toNat = c.toNat := by omega
    have e2 : gn r = gn s := by omega
    rw [UInt8.toNat_inj.1 e1, gn_inj r s (by simpa using h) e2]
theorem le_gn (l : List UInt8) : le (gn l) l.length = l := by
  refine gn_inj _ _ (le_len _ _) ?_
  rw [gn_le, Nat.mod_eq_of_lt (gn_lt l)]
/-- the byte at a place of what is laid down -/
theorem le_get (n : Int) (w i : Nat) (h : i < (le n w).length) : (le n w)[i] = UInt8.ofNat (n / 2 ^ (8 * i) % 256).toNat := by simp [le]

/-! ### the disk -/
structure Ds where
  L : List (List UInt8)
  W : List (Nat × List UInt8)
  off : Bool
  ops : Nat
  on : Bool
  aft : Nat
  mask : Nat
  gh : Nat -- how many writes there were (nowhere in memory)
def bit (m k : Nat) : Bool := decide (m / 2 ^ (k % 64) % 2 = 1)
/-- What lasts behind writes: those of which p is so. -/
def fl (p : Nat → Bool) : Nat → List (Nat × List UInt8) → List (List UInt8) → List (List UInt8)
  | _, [], L => L
  | k, (i, s) :: W, L => fl p (k + 1) W (if p k then L.set i s else L)
/-- A block's bytes: those written last, or s. -/
def lastW (i : Nat) : List (Nat × List UInt8) → List UInt8 → List UInt8
  | [], s => s
  | (j, t) :: W, s => lastW i W (if j = i then t else s)
namespace Ds
def get (D : Ds) (i : Nat) : List UInt8 := lastW i D.W (D.L.getD i [])
def settle (D : Ds) (p : Nat → Bool) : Ds := { D with L := fl p 0 D.W D.L, W := [] }
def fail (D : Ds) (m : Nat) : Ds := if D.off then D else { D.settle (bit m) with off := true }
def start (D : Ds) : Ds := { D with off := false }
def plan (D : Ds) (k m : Nat) : Ds := { D with on := true, aft := k, mask := m }
def tick (D : Ds) : Ds := { D with ops := D.ops + 1 }
/-- An operation is counted; true: it is not finished. -/
def cut (D : Ds) : Bool × Ds :=
  if D.on then (if 0 < D.aft then (false, { D with ops := D.ops + 1, aft := D.aft - 1 }) else (true, ({ D with ops := D.ops + 1, on := false } : Ds).fail D.mask))
  else (false, { D with ops := D.ops + 1 })
/-- A write of 64 bytes to a block that is there, the power being on. -/
def put (D : Ds) (i : Nat) (s : List UInt8) : Bool × Ds := ({ D with W := D.W ++ [(i, s)], gh := D.gh + 1 } : Ds).cut
def write (D : Ds) (i : Int) (s : List UInt8) : Nat × Ds :=
  if D.off then (7, D) else if 0 ≤ i ∧ i < D.L.length ∧ s.length = 64 then ((if (D.put i.toNat s).1 then 7 else 0), (D.put i.toNat s).2) else (1, D)
def sync (D : Ds) : Nat × Ds := if D.off then (7, D) else if D.cut.1 then (7, D.cut.2) else (0, D.cut.2.settle fun _ => true)
end Ds
theorem fl_len (p : Nat → Bool) : ∀ (W : List (Nat × List UInt8)) (k : Nat) (L : List (List UInt8)), (fl p k W L).length = L.length
  | [], _, _ => rfl
  | (i, s) :: W, k, L => by rw [fl, fl_len p W]; split <;> simp
theorem fl_append (p : Nat → Bool) : ∀ (W V : List (Nat × List UInt8)) (k : Nat) (L : List (List UInt8)), fl p k (W ++ V) L = fl p (k + W.length) V (fl p k W L)
  | [], _, _, _ => by simp [fl]
  | (i, s) :: W, V, k, L => by rw [List.cons_append, fl, fl, fl_append p W, List.length_cons, show k + (W.length + 1) = k + 1 + W.length by omega]
theorem lastW_append (i : Nat) : ∀ (W V : List (Nat × List UInt8)) (s : List UInt8), lastW i (W ++ V) s = lastW i V (lastW i W s)
  | [], _, _ => rfl
  | (j, t) :: W, V, s => by rw [List.cons_append, lastW, lastW, lastW_append i W]

/-- The number of the last write to each block. -/
def updF (f : Nat → Option Nat) (i : Nat) (x : Option Nat) : Nat → Option Nat := fun j => if j = i then x else f j
def nwA : Nat → (Nat → Option Nat) → List (Nat × List UInt8) → Nat → Option Nat
  | _, f, [] => f
  | k, f, p :: W => nwA (k + 1) (updF f p.1 (some k)) W
def nwf (W : List (Nat × List UInt8)) : Nat → Option Nat := nwA 0 (fun _ => none) W
def delF : List (Nat × List UInt8) → (Nat → Option Nat) → Nat → Option Nat
  | [], f => f
  | p :: W, f => delF W (updF f p.1 none)
theorem nwA_append : ∀ (W V : List (Nat × List UInt8)) (k : Nat) (f : Nat → Option Nat), nwA k f (W ++ V) = nwA (k + W.length) (nwA k f W) V
  | [], _, _, _ => rfl
  | p :: W, V, k, f => by rw [List.cons_append, nwA, nwA, nwA_append W, List.length_cons, show k + (W.length + 1) = k + 1 + W.length by omega]
theorem nwf_snoc (W : List (Nat × List UInt8)) (i : Nat) (s : List UInt8) : nwf (W ++ [(i, s)]) = updF (nwf W) i (some W.length) := by
  unfold nwf; rw [nwA_append, Nat.zero_add]; rfl
theorem lastW_none (i : Nat) : ∀ (W : List (Nat × List UInt8)) (s : List UInt8), (∀ p ∈ W, p.1 ≠ i) → lastW i W s = s
  | [], _, _ => rfl
  | (j, t) :: W, s, h => by
    rw [lastW, if_neg (h (j, t) (by simp)), lastW_none i W s fun p hp => h p (by simp [hp])]
theorem nwA_spec (i : Nat) : ∀ (W : List (Nat × List UInt8)) (k : Nat) (f : Nat → Option Nat),
    (nwA k f W i = f i ∧ ∀ p ∈ W, p.1 ≠ i) ∨ ∃ j, ∃ h : j < W.length, nwA k f W i = some (k + j) ∧ W[j].1 = i ∧ ∀ s, lastW i W s = W[j].2
  | [], _, _ => .inl ⟨rfl, by simp⟩
  | (i0, s0) :: W, k, f => by
    rcases nwA_spec i W (k + 1) (updF f i0 (some k)) with ⟨h1, h2⟩ | ⟨j, hj, h1, h2, h3⟩
    · by_cases e : i0 = i
      · subst e
        refine .inr ⟨0, by simp, ?_, rfl, fun s => ?_⟩
        · rw [nwA, h1]; simp [updF]
        · rw [lastW, if_pos rfl, lastW_none i0 W s0 h2]; rfl
      · refine .inl ⟨?_, ?_⟩
        · rw [nwA, h1]; show (if i = i0 then some k else f i) = f i; rw [if_neg fun h => e h.symm]
        · intro p hp
          rcases List.mem_cons.1 hp with rfl | hp
          · exact e
          · exact h2 p hp
    · refine .inr ⟨j + 1, by simpa using hj, ?_, h2, fun s => ?_⟩
      · rw [nwA, h1]; congr 1; omega
      · rw [lastW]; exact h3 _
theorem nwf_none {W : List (Nat × List UInt8)} {i : Nat} (h : nwf W i = none) : (∀ p ∈ W, p.1 ≠ i) ∧ ∀ s, lastW i W s = s := by
  rcases nwA_spec i W 0 (fun _ => none) with ⟨_, h2⟩ | ⟨j, hj, h1, _, _⟩
  · exact ⟨h2, fun s => lastW_none i W s h2⟩
  · unfold nwf at h; rw [h1] at h; cases h
theorem nwf_some {W : List (Nat × List UInt8)} {i k : Nat} (h : nwf W i = some k) : ∃ hk : k < W.length, W[k].1 = i ∧ ∀ s, lastW i W s = W[k].2 := by
  rcases nwA_spec i W 0 (fun _ => none) with ⟨h1, _⟩ | ⟨j, hj, h1, h2, h3⟩
  · unfold nwf at h; rw [h1] at h; cases h
  · unfold nwf at h; rw [h1, Nat.zero_add] at h; cases h; exact ⟨hj, h2, h3⟩
theorem delF_append : ∀ (W V : List (Nat × List UInt8)) (f : Nat → Option Nat), delF (W ++ V) f = delF V (delF W f)
  | [], _, _ => rfl
  | p :: W, V, f => by rw [List.cons_append, delF, delF, delF_append W]
theorem delF_at (i : Nat) : ∀ (W : List (Nat × List UInt8)) (f : Nat → Option Nat), (f i = none ∨ ∃ p ∈ W, p.1 = i) → delF W f i = none
  | [], f, h => by
    rcases h with h | ⟨p, hp, _⟩
    · exact h
    · cases hp
  | p :: W, f, h => by
    rw [delF]
    refine delF_at i W _ ?_
    by_cases e : i = p.1
    · exact .inl (by simp [updF, e])
    · rcases h with h | ⟨q, hq, he⟩
      · exact .inl (by simp [updF, e, h])
      · rcases List.mem_cons.1 hq with rfl | hq
        · exact absurd he.symm e
        · exact .inr ⟨q, hq, he⟩
theorem delF_nwf (W : List (Nat × List UInt8)) (i : Nat) : delF W (nwf W) i = none := by
  refine delF_at i W _ ?_
  cases h : nwf W i with
  | none => exact .inl rfl
  | some k =>
    obtain ⟨hk, h1, _⟩ := nwf_some h
    exact .inr ⟨W[k], List.getElem_mem hk, h1⟩

/-! ### the journal -/
structure En where
  k : Int
  n : Int
  sl : Int
  sz : Int
  sum : List UInt8
  deriving DecidableEq
def E0 : En := ⟨0, 0, 0, 0, []⟩
namespace En
def right (e : En) : Bool := decide (1 ≤ e.k ∧ e.k ≤ 3 ∧ 1 ≤ e.n ∧ e.n ≤ 4294967295 ∧ 0 ≤ e.sl ∧ e.sl ≤ 2 ∧ 0 ≤ e.sz ∧ e.sz ≤ 4294967295 ∧ e.sum.length = 32)
def head (e : En) : List UInt8 := [67, 74] ++ (le e.k 1 ++ le e.sl 1 ++ le e.n 4 ++ le e.sz 4) ++ e.sum
def blk (e : En) : List UInt8 := e.head ++ (Sha.sha e.head).take 8 ++ List.replicate 12 0
end En
def build (e : En) : Option (List UInt8) := if e.right then some e.blk else none
def num (s : List UInt8) (at_ w : Nat) : Nat := gn ((s.drop at_).take w)
def guess (s : List UInt8) : En := ⟨num s 2 1, num s 4 4, num s 3 1, num s 8 4, (s.drop 12).take 32⟩
def parse (s : List UInt8) : Option En := if s.length = 64 ∧ build (guess s) = some s then some (guess s) else none
theorem num_le (a c : List UInt8) (n : Int) (w i : Nat) (ha : a.length = i) (h0 : 0 ≤ n) (h1 : n < 2 ^ (8 * w)) : (num (a ++ (le n w ++ c)) i w : Int) = n := by
  subst ha
  obtain ⟨m, rfl⟩ := Int.eq_ofNat_of_zero_le h0
  unfold num
  rw [List.drop_left, List.take_left' (le_len _ _), gn_le, Nat.mod_eq_of_lt (by exact_mod_cast h1)]
theorem head_len (e : En) (h : e.sum.length = 32) : e.head.length = 44 := by simp [En.head, le_len, h]
theorem guess_blk (e : En) (h : e.right = true) : guess e.blk = e := by
  obtain ⟨k, n, sl, sz, sum⟩ := e
  simp only [En.right, decide_eq_true_eq] at h
  obtain ⟨h1, h2, h3, h4, h5, h6, h7, h8, h9⟩ := h
  obtain ⟨T, hT⟩ : ∃ T, (Sha.sha (En.head ⟨k, n, sl, sz, sum⟩)).take 8 ++ List.replicate 12 (0 : UInt8) = T := ⟨_, rfl⟩
  have e0 : En.blk ⟨k, n, sl, sz, sum⟩ = [67, 74] ++ (le k 1 ++ (le sl 1 ++ (le n 4 ++ (le sz 4 ++ (sum ++ T))))) := by
    unfold En.blk
    rw [List.append_assoc, hT]
    simp [En.head, List.append_assoc]
  have e1 : En.blk ⟨k, n, sl, sz, sum⟩ = ([67, 74] ++ le k 1) ++ (le sl 1 ++ (le n 4 ++ (le sz 4 ++ (sum ++ T)))) := by rw [e0]; simp
  have e2 : En.blk ⟨k, n, sl, sz, sum⟩ = ([67, 74] ++ le k 1 ++ le sl 1) ++ (le n 4 ++ (le sz 4 ++ (sum ++ T))) := by rw [e0]; simp
  have e3 : En.blk ⟨k, n, sl, sz, sum⟩ = ([67, 74] ++ le k 1 ++ le sl 1 ++ le n 4) ++ (le sz 4 ++ (sum ++ T)) := by rw [e0]; simp
  have e4 : En.blk ⟨k, n, sl, sz, sum⟩ = ([67, 74] ++ le k 1 ++ le sl 1 ++ le n 4 ++ le sz 4) ++ (sum ++ T) := by rw [e0]; simp
  unfold guess
  congr 1
  · rw [e0]; exact num_le _ _ _ _ _ rfl (by omega) (by omega)
  · rw [e2]; exact num_le _ _ _ _ _ (by simp [le_len]) (by omega) (by omega)
  · rw [e1]; exact num_le _ _ _ _ _ (by simp [le_len]) (by omega) (by omega)
  · rw [e3]; exact num_le _ _ _ _ _ (by simp [le_len]) (by omega) (by omega)
  · rw [e4, List.drop_left' (by simp [le_len]), List.take_left' h9]
theorem blk_len (e : En) (h : e.right = true) : e.blk.length = 64 := by
  simp only [En.right, decide_eq_true_eq] at h
  have hs : (Sha.sha e.head).length = 32 := by simp [Sha.sha, Sha.S8.text, Sha.be4]
  simp [En.blk, head_len e h.2.2.2.2.2.2.2.2, hs]
theorem parse_blk (e : En) (h : e.right = true) : parse e.blk = some e := by
  unfold parse build
  rw [guess_blk e h, h, if_pos rfl, if_pos ⟨blk_len e h, rfl⟩]
theorem of_parse {s : List UInt8} {e : En} (h : parse s = some e) : e.right = true ∧ e.blk = s ∧ s.length = 64 ∧ guess s = e := by
  unfold parse at h
  split at h
  · rename_i hc
    cases h
    unfold build at hc
    split at hc
    · rename_i hr
      exact ⟨hr, Option.some.inj hc.2, hc.1, rfl⟩
    · cases hc.2
  · cases h
/-- e among others, ahead of the first of a greater number. -/
def ins (e : En) : List En → List En
  | [] => [e]
  | x :: r => if x.n > e.n then e :: x :: r else x :: ins e r
/-- The entries of the first blocks. -/
def scan (D : Ds) : Nat → List En
  | 0 => []
  | k + 1 => match parse (D.get k) with
    | some e => if e.n % 8 = k then ins e (scan D k) else scan D k
    | none => scan D k
def newest (D : Ds) : Int := match (scan D 8).getLast? with | some e => e.n | none => 0
/-- An entry is appended: the error, the entry that was, the disk. -/
def app (D : Ds) (e : En) : Nat × En × Ds :=
  if D.off then (7, E0, D) else if newest D = 4294967295 then (6, E0, D) else
  let x : En := { e with n := newest D + 1 }
  if x.right then
    let p := D.write (x.n % 8) x.blk
    if p.1 ≠ 0 then (p.1, E0, p.2) else
    let q := p.2.sync
    if q.1 ≠ 0 then (q.1, E0, q.2) else (0, x, q.2)
  else (1, E0, D)
end Go.Proofs.Ytkdakmddlkgjkaa
