import Derived.WalkSpells
import Derived.Test.YtkdakmddlkgjkaaMp
import Derived.Test.YtkdakmddlkgjkaaOct
open Go.RowKit Go.Lib
namespace Go.Proofs.Ytkdakmddlkgjkaa
set_option maxRecDepth 100000
/-! A disk in memory. -/
def sv (l : List UInt8) : Value := .string ⟨l.toArray⟩
def OwnS (w : World) (base : Nat) (v : Value) (l : List (List UInt8)) : Prop := Own w base 9 1 v l.length (l.map sv)
def wcells (W : List (Nat × List UInt8)) : List Value := W.flatMap fun p => [.int .i64 (p.1 : Int), sv p.2]
def OwnW (w : World) (base : Nat) (v : Value) (W : List (Nat × List UInt8)) : Prop := Own w base 112 2 v W.length (wcells W)
def dcells (lv wv : Value) (m : Nat) (D : Ds) : Array Value := #[lv, wv, .map (some m), .bool D.off, .int .i64 (D.ops : Int), .bool D.on, .int .i64 (D.aft : Int), .int .u64 (D.mask : Int)]
structure Ds.ok (D : Ds) : Prop where
  lo : 16 ≤ D.L.length
  hi : D.L.length ≤ 512
  l64 : ∀ s ∈ D.L, s.length = 64
  w64 : ∀ p ∈ D.W, p.1 < D.L.length ∧ p.2.length = 64
  wops : D.W.length ≤ D.gh
  opb : D.ops < 1000000000
  ghb : D.gh < 1000000000
  aft : D.aft < 9223372036854775808
  mask : D.mask < 18446744073709551616
structure DiskAt (w : World) (b : Nat) (lv wv : Value) (m : Nat) (D : Ds) (F : Nat → Prop) : Prop where
  blk : w.heap[b]? = some (.cells (dcells lv wv m D) 109 (0, 0))
  ls : OwnS w 0 lv D.L
  ws : OwnW w 0 wv D.W
  mp : MapIs w m D.gh (nwf D.W)
  lb : lv.ownBlock ≠ some b
  wb : wv.ownBlock ≠ some b
  lw : ∀ k, lv.ownBlock = some k → wv.ownBlock ≠ some k
  fb : F b
  fm : F m
  fl : ∀ k, lv.ownBlock = some k → F k
  fw : ∀ k, wv.ownBlock = some k → F k
  lt : ∀ k, F k → k < w.heap.size
  ok : D.ok
/-- Block b is the disk D; all of it lies in blocks of F. -/
def IsDisk (w : World) (b : Nat) (D : Ds) (F : Nat → Prop) : Prop := ∃ lv wv m, DiskAt w b lv wv m D F
theorem sv_cells (l : List (List UInt8)) : ∀ v ∈ l.map sv, v.cells = #[v] := by
  intro v hv; obtain ⟨b, _, rfl⟩ := List.mem_map.1 hv; rfl
theorem sv_one (l : List (List UInt8)) : ∀ v ∈ l.map sv, v.oneCell' = true := by
  intro v hv; obtain ⟨b, _, rfl⟩ := List.mem_map.1 hv; rfl
theorem wcells_len (W : List (Nat × List UInt8)) : (wcells W).length = W.length * 2 := by
  induction W with
  | nil => rfl
  | cons p W ih => simp only [wcells, List.flatMap_cons, List.length_append, List.length_cons, List.length_nil] at ih ⊢; omega
theorem wcells_append (W V : List (Nat × List UInt8)) : wcells (W ++ V) = wcells W ++ wcells V := by simp [wcells]
theorem wcells_at : ∀ (W : List (Nat × List UInt8)) (k : Nat) (h : k < W.length), (wcells W)[k * 2]? = some (.int .i64 (W[k].1 : Int)) ∧ (wcells W)[k * 2 + 1]? = some (sv W[k].2)
  | p :: W, 0, _ => ⟨rfl, rfl⟩
  | p :: W, k + 1, h => by
    have := wcells_at W k (by simpa using h)
    have e : wcells (p :: W) = .int .i64 (p.1 : Int) :: sv p.2 :: wcells W := rfl
    rw [e, Nat.add_mul]
    exact this
theorem DiskAt.mne {w : World} {b : Nat} {lv wv : Value} {m : Nat} {D : Ds} {F : Nat → Prop} (h : DiskAt w b lv wv m D F) : m ≠ b ∧ lv.ownBlock ≠ some m ∧ wv.ownBlock ≠ some m := by
  obtain ⟨es, clock, hm⟩ := h.mp.obj
  refine ⟨fun e => ?_, fun e => ?_, fun e => ?_⟩
  · subst e; rw [h.blk] at hm; cases hm
  · rcases h.ls.2 with ⟨he, _⟩ | ⟨g, cap, cur, fr, he, hb, hg, _⟩
    · rw [he] at e; cases e
    · rw [he] at e; simp only [Value.ownBlock, Option.some.injEq] at e; subst e; rw [hg] at hm; cases hm
  · rcases h.ws.2 with ⟨he, _⟩ | ⟨g, cap, cur, fr, he, hb, hg, _⟩
    · rw [he] at e; cases e
    · rw [he] at e; simp only [Value.ownBlock, Option.some.injEq] at e; subst e; rw [hg] at hm; cases hm
/-- It stays in a world in which the blocks of F are as they were. -/
theorem IsDisk.keep {w w' : World} {b : Nat} {D : Ds} {F : Nat → Prop} (h : IsDisk w b D F) (hs : w.heap.size ≤ w'.heap.size) (hk : ∀ k, F k → w'.heap[k]? = w.heap[k]?) : IsDisk w' b D F := by
  obtain ⟨lv, wv, m, h⟩ := h
  exact ⟨lv, wv, m, by rw [hk b h.fb]; exact h.blk, h.ls.keep fun k e => hk k (h.fl k e), h.ws.keep fun k e => hk k (h.fw k e), h.mp.keep (hk m h.fm), h.lb, h.wb, h.lw, h.fb, h.fm, h.fl, h.fw, fun k hf => Nat.lt_of_lt_of_le (h.lt k hf) hs, h.ok⟩
theorem IsDisk.lt {w : World} {b : Nat} {D : Ds} {F : Nat → Prop} (h : IsDisk w b D F) : ∀ k, F k → k < w.heap.size := by
  obtain ⟨lv, wv, m, h⟩ := h; exact h.lt
theorem IsDisk.ext {w w' : World} {b : Nat} {D : Ds} {F : Nat → Prop} (h : IsDisk w b D F) (hb : Below w.heap.size w w') : IsDisk w' b D F :=
  h.keep hb.size fun k hk => hb.block k (h.lt k hk)
theorem IsDisk.upd {M : Nat → Prop} {w w' : World} {b : Nat} {D : Ds} {F : Nat → Prop} (h : IsDisk w b D F) (hb : Upd M w w') (hd : ∀ k, F k → ¬ M k) : IsDisk w' b D F :=
  h.keep hb.size fun k hk => hb.block k (h.lt k hk) (hd k hk)
theorem IsDisk.ok {w : World} {b : Nat} {D : Ds} {F : Nat → Prop} (h : IsDisk w b D F) : D.ok := by
  obtain ⟨lv, wv, m, h⟩ := h; exact h.ok
theorem IsDisk.mem {w : World} {b : Nat} {D : Ds} {F : Nat → Prop} (h : IsDisk w b D F) : F b := by
  obtain ⟨lv, wv, m, h⟩ := h; exact h.fb
/-! ### there, wrong, Blocks -/
theorem dthere_c {w : World} {b : Nat} (m : Nat) (h : w.cell? ⟨b, 2, none⟩ = some (.map (some m))) :
    Calls Try.prog 65 #[.pointer (some ⟨b, 0, none⟩)] w fun e w' => e = .returned (.bool true) ∧ w = w' := by
  have q1 : ∀ (w : World) (r : Option Nat), (binOp .neq 104 (.map r) (.map none)).run Try.prog w = .ok (.bool (!r.isNone)) w := fun w r => run_neq_map_nil w _ _ _ r Try.underlying104
  go_enter Try.func65, Try.ntmps65
  go_wp2
  go_ret
  exact ⟨rfl, rfl⟩
theorem dthere_nil (w : World) :
    Calls Try.prog 65 #[.pointer none] w fun e w' => e = .returned (.bool false) ∧ w = w' := by
  go_enter Try.func65, Try.ntmps65
  go_wp2
  go_ret
  exact ⟨rfl, rfl⟩
/-- What is wrong of a block. -/
def wr (D : Ds) (i : Int) : Nat := if D.off then 7 else if 0 ≤ i ∧ i < D.L.length then 0 else 1
theorem wrong_nil (w : World) (i : Int) :
    Calls Try.prog 59 #[.pointer none, .int .i64 i] w fun e w' => e = .returned (.int .i64 16) ∧ w = w' := by
  go_enter Try.func59, Try.ntmps59
  go_wp2_with fail
  refine (dthere_nil w).mono ?_
  rintro e w' ⟨rfl, rfl⟩
  go_wp2
  go_ret
  exact ⟨rfl, rfl⟩
theorem OwnS.form {w : World} {base : Nat} {v : Value} {l : List (List UInt8)} (h : OwnS w base v l) : ∃ a c, v = .slice a l.length c := by
  obtain ⟨a, c, h1, _⟩ := Own.form h; exact ⟨a, c, h1⟩
theorem wrong_c {w : World} {b : Nat} {D : Ds} {F : Nat → Prop} (h : IsDisk w b D F) (i : Int) :
    Calls Try.prog 59 #[.pointer (some ⟨b, 0, none⟩), .int .i64 i] w fun e w' => e = .returned (.int .i64 (wr D i : Nat)) ∧ w = w' := by
  obtain ⟨lv, wv, m, h⟩ := h
  obtain ⟨a, c, rfl⟩ := OwnS.form h.ls
  have c0 : w.cell? ⟨b, 0, none⟩ = some (.slice a D.L.length c) := blk_cell h.blk 0
  have c2 : w.cell? ⟨b, 2, none⟩ = some (.map (some m)) := blk_cell h.blk 2
  have c3 : w.cell? ⟨b, 3, none⟩ = some (.bool D.off) := blk_cell h.blk 3
  unfold wr
  obtain ⟨n, hn⟩ : ∃ n, D.L.length = n := ⟨_, rfl⟩
  rw [hn] at c0 ⊢
  obtain ⟨o, ho⟩ : ∃ o, D.off = o := ⟨_, rfl⟩
  rw [ho] at c3 ⊢
  clear h ho hn
  cases o with
  | true =>
    go_enter Try.func59, Try.ntmps59
    go_wp2_with fail
    refine (dthere_c m c2).mono ?_
    rintro e w' ⟨rfl, rfl⟩
    go_wp2
    go_ret
    exact ⟨rfl, rfl⟩
  | false =>
    by_cases h0 : 0 ≤ i
    · by_cases h1 : i < (n : Int)
      · rw [if_neg (by decide), if_pos ⟨h0, h1⟩]
        go_enter Try.func59, Try.ntmps59
        go_wp2_with fail
        refine (dthere_c m c2).mono ?_
        rintro e w' ⟨rfl, rfl⟩
        go_wp2
        go_ret
        exact ⟨rfl, rfl⟩
      · rw [if_neg (by decide), if_neg (by omega)]
        go_enter Try.func59, Try.ntmps59
        go_wp2_with fail
        refine (dthere_c m c2).mono ?_
        rintro e w' ⟨rfl, rfl⟩
        go_wp2
        go_ret
        exact ⟨rfl, rfl⟩
    · rw [if_neg (by decide), if_neg (by omega)]
      go_enter Try.func59, Try.ntmps59
      go_wp2_with fail
      refine (dthere_c m c2).mono ?_
      rintro e w' ⟨rfl, rfl⟩
      go_wp2
      go_ret
      exact ⟨rfl, rfl⟩
end Go.Proofs.Ytkdakmddlkgjkaa
