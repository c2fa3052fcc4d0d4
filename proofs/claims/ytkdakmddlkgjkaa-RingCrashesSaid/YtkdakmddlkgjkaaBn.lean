import Derived.Test.YtkdakmddlkgjkaaConv
open Go.RowKit Go.Lib
namespace Go.Proofs.Ytkdakmddlkgjkaa
set_option maxRecDepth 100000
open Sha
/-- a byte's number, behind a name that simp does not open -/
def bn (x : UInt8) : Int := (x.toNat : Int)
theorem b_bv (x : UInt8) : BitVec.ofInt 8 (x.toNat : Int) = x.toBitVec := by
  rw [BitVec.ofInt_natCast]; exact BitVec.eq_of_toNat_eq (by rw [BitVec.toNat_ofNat, UInt8.toNat_toBitVec]; exact Nat.mod_eq_of_lt x.toNat_lt)
theorem wr8 (n : Nat) (h : n < 256) : IntKind.u8.wrap (n : Int) = n := by rw [IntKind.wrap_u8]; omega
theorem b_xor (x y : UInt8) : bits .xor .u8 (bn x) (bn y) = bn (x ^^^ y) := by
  show IntKind.u8.wrap (((BitVec.ofInt 8 (x.toNat : Int) ^^^ BitVec.ofInt 8 (y.toNat : Int)).toNat : Nat) : Int) = _
  rw [b_bv, b_bv]; exact wr8 _ (x ^^^ y).toNat_lt
theorem b_or (x y : UInt8) : bits .or .u8 (bn x) (bn y) = bn (x ||| y) := by
  show IntKind.u8.wrap (((BitVec.ofInt 8 (x.toNat : Int) ||| BitVec.ofInt 8 (y.toNat : Int)).toNat : Nat) : Int) = _
  rw [b_bv, b_bv]; exact wr8 _ (x ||| y).toNat_lt
theorem b_and (x y : UInt8) : bits .and .u8 (bn x) (bn y) = bn (x &&& y) := by
  show IntKind.u8.wrap (((BitVec.ofInt 8 (x.toNat : Int) &&& BitVec.ofInt 8 (y.toNat : Int)).toNat : Nat) : Int) = _
  rw [b_bv, b_bv]; exact wr8 _ (x &&& y).toNat_lt
section
variable {w : World} {base g n c : Nat} {l : List UInt8}
theorem OwnB.at (h : OwnB w base (.slice (some ⟨g, 0, none⟩) n c) l) (k : Nat) (hk : k < l.length) : w.cell? ⟨g, k, none⟩ = some (.int .u8 (bn l[k])) ∧ w.frozen? ⟨g, k, none⟩ = false := by
  rcases h.2 with ⟨he, h0⟩ | ⟨g', cap, cur, fr, he, hb', hg, hf, hnc, hcm, hcs, htk⟩
  · cases he
  · simp only [Value.slice.injEq, Option.some.injEq, Addr.mk.injEq, and_true] at he
    obtain ⟨rfl, rfl, rfl⟩ := he
    refine ⟨?_, (row_spare (w := w) hg hf (by omega) k (by omega)).2⟩
    have e : (l.map b8)[k]? = some (.int .u8 (bn l[k])) := by rw [List.getElem?_map, List.getElem?_eq_getElem hk]; rfl
    rw [blk_cell hg, ← e, ← htk, List.getElem?_take_of_lt (by omega)]
    simp
theorem OwnB.store (h : OwnB w base (.slice (some ⟨g, 0, none⟩) n c) l) (k : Nat) (_hk : k < l.length) (x : UInt8) :
    OwnB (w.setCell ⟨g, k, none⟩ (.int .u8 (bn x))) base (.slice (some ⟨g, 0, none⟩) n c) (l.set k x) := by
  rcases h.2 with ⟨he, h0⟩ | ⟨g', cap, cur, fr, he, hb', hg, hf, hnc, hcm, hcs, htk⟩
  · cases he
  · simp only [Value.slice.injEq, Option.some.injEq, Addr.mk.injEq, and_true] at he
    obtain ⟨rfl, rfl, rfl⟩ := he
    refine ⟨by simp, .inr ⟨g, c, _, fr, by rw [List.length_set], hb', blk_set hg k _, hf, by rw [List.length_set]; exact hnc, hcm, by simpa using hcs, ?_⟩⟩
    rw [List.length_set, Array.toList_setIfInBounds, List.take_set, htk, List.map_set]
    rfl
end
def xr (c : UInt8) (l : List UInt8) (k : Nat) : List UInt8 := (l.take k).map (· ^^^ c) ++ l.drop k
theorem xr_len (c : UInt8) (l : List UInt8) (k : Nat) : (xr c l k).length = l.length := by simp [xr]; omega
theorem xr_0 (c : UInt8) (l : List UInt8) : xr c l 0 = l := by simp [xr]
theorem xr_all (c : UInt8) (l : List UInt8) (k : Nat) (h : l.length ≤ k) : xr c l k = l.map (· ^^^ c) := by simp [xr, List.take_of_length_le h, h]
theorem xr_at (c : UInt8) (l : List UInt8) (k : Nat) (h : k < l.length) (h' : k < (xr c l k).length) : (xr c l k)[k] = l[k] := by
  have e : (xr c l k)[k]? = l[k]? := by
    unfold xr
    rw [List.getElem?_append_right (by simp; omega)]
    simp [Nat.min_eq_left (Nat.le_of_lt h)]
  rw [List.getElem?_eq_getElem h', List.getElem?_eq_getElem h] at e
  exact Option.some.inj e
theorem xr_succ (c : UInt8) (l : List UInt8) (k : Nat) (h : k < l.length) : (xr c l k).set k (l[k] ^^^ c) = xr c l (k + 1) := by
  unfold xr
  rw [List.set_append_right _ _ (by simp; omega), List.take_succ_eq_append_getElem h, List.map_append, List.append_assoc]
  congr 1
  have e : k - ((l.take k).map (· ^^^ c)).length = 0 := by simp; omega
  rw [e, List.drop_eq_getElem_cons h, List.set_cons_zero]
  rfl
theorem ix_str (l : List UInt8) (k : Nat) (hk : k < l.length) (x : UInt8) (hx : x = l.getD k 0) (w : World) : (Instr.index 9 (.string ⟨l.toArray⟩) (.int .i64 k)).run Try.prog w = .ok (.int .u8 (bn x)) w := by
  subst hx
  have h1 : (0 : Int) ≤ k := by omega
  have h2 : ((k : Int) < ((ByteArray.mk l.toArray).size : Nat)) := by show (k : Int) < (l.length : Nat); omega
  rw [run_index_string w 9 ⟨l.toArray⟩ .i64 k Try.underlying9, dif_pos ⟨h1, h2⟩]
  have e : (ByteArray.mk l.toArray)[(k : Int).toNat]'(by show k < l.length; exact hk) = l.getD k 0 := by
    show l.toArray[(k : Int).toNat]'(by simpa using hk) = _
    simp [List.getD, hk]
  rw [e]
  rfl
end Go.Proofs.Ytkdakmddlkgjkaa
