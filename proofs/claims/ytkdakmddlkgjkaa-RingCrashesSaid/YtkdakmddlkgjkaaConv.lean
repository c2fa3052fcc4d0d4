import Derived.Lib.LazyBuf
import Derived.Lib.AtoiErrMem
import Derived.Test.YtkdakmddlkgjkaaSum
open Go.RowKit Go.Lib
namespace Go.Proofs.Ytkdakmddlkgjkaa
set_option maxRecDepth 100000
open Sha
/-- []byte(s): the new row is the call's own. -/
theorem OwnB.conv (w : World) (s : ByteArray) (hs : s.size ≤ 140737488355328) :
    OwnB (bytesWorld w 5 s) w.heap.size (.slice (some ⟨w.heap.size, 0, none⟩) s.size (grownCap w s.size 0 5)) s.data.toList := by
  have hge := grownCap_ge w s.size 0 5
  have hm := grownCap_le_maxLen w s.size 0 5 (by simp only [maxLen]; omega)
  have hl : s.data.toList.length = s.size := by simp
  refine ⟨by simp, .inr ⟨w.heap.size, grownCap w s.size 0 5, _, _, by rw [hl], Nat.le_refl _, bytesWorld_at_new w 5 s, .inr ?_, by rw [hl]; exact hge, hm, ?_, ?_⟩⟩
  · simp [bytesCells]; omega
  · simp [bytesCells]; omega
  · rw [hl, Nat.mul_one]
    have e : (bytesCells w 5 s).toList = s.data.toList.map b8 ++ List.replicate (grownCap w s.size 0 5 - s.size) (.int .u8 0) := by
      simp only [bytesCells, Array.toList_append, Array.toList_map, Array.toList_replicate]
      rfl
    rw [e, List.take_append_of_le_length (by simp), List.take_of_length_le (by simp)]
theorem putArr_list : ∀ (vs : List Value) (o : Nat) (cur : Array Value), o + vs.length ≤ cur.size → (putArr cur o vs).toList = cur.toList.take o ++ vs ++ cur.toList.drop (o + vs.length)
  | [], o, cur, _ => by simp [putArr]
  | x :: vs, o, cur, h => by
    simp only [List.length_cons] at h
    rw [putArr, putArr_list vs (o + 1) _ (by simp; omega)]
    have e1 : (cur.setIfInBounds o x).toList.take (o + 1) = cur.toList.take o ++ [x] := by
      rw [Array.toList_setIfInBounds, List.take_set, List.take_succ_eq_append_getElem (by simpa using by omega), List.set_append_right _ _ (by simp; omega)]
      simp [Nat.min_eq_left (show o ≤ cur.size by omega)]
    have e2 : (cur.setIfInBounds o x).toList.drop (o + 1 + vs.length) = cur.toList.drop (o + (vs.length + 1)) := by
      rw [Array.toList_setIfInBounds, List.drop_set_of_lt (by omega)]
      congr 1; omega
    rw [e1, e2]; simp
section
variable {ops : Array Oper} {Q : Exit → Act → World → Prop} {dst : Option Tmp} {ty : TypeId} {pos : String} {aft : Array Edge} {a : Act} {w : World} {K : Act → World → Prop} {base : Nat} {v : Value} {l : List UInt8}
/-- []byte(s) -/
theorem W_convB (x : Operand) (s : ByteArray) (hp : a.eval x = .string s ∧ s.size ≤ 140737488355328)
    (h : ∀ c w', OwnB w' w.heap.size (.slice (some ⟨w.heap.size, 0, none⟩) s.size c) s.data.toList → Below w.heap.size w w' → w'.heap.size = w.heap.size + 1 → K (a.put dst (.slice (some ⟨w.heap.size, 0, none⟩) s.size c)) w') :
    Oper.wp Try.prog ⟨dst, .convert 9 38 x, ty, pos, aft, none⟩ a w K Q := by
  have hr := Go.Lib.run_convert_string_bytes (P := Try.prog) w 9 38 5 s Try.underlying9 Try.underlying38 Try.underlying5
  unfold Oper.wp execOp
  simp only [hp.1, Sem.run_bind]
  rw [hr]
  exact h _ _ (OwnB.conv w s hp.2) (bytesWorld_below w _ s) (bytesWorld_size w _ s)
/-- copy(b, s), s no longer than b -/
theorem W_copyB (x y : Operand) (g n c : Nat) (s : ByteArray) (hown : OwnB w base (.slice (some ⟨g, 0, none⟩) n c) l)
    (hp : a.eval x = .slice (some ⟨g, 0, none⟩) n c ∧ a.eval y = .string s ∧ s.size ≤ l.length)
    (h : ∀ w', OwnB w' base (.slice (some ⟨g, 0, none⟩) n c) (s.data.toList ++ l.drop s.size) → w.grownBy w' (some g) → K (a.put dst (goInt s.size)) w') :
    Oper.wp Try.prog ⟨dst, .call { callee := .builtin .copy, args := #[x, y], argTypes := #[38, 9] }, ty, pos, aft, none⟩ a w K Q := by
  obtain ⟨i, hi, hz, hs, hb⟩ := info_parts info_u8
  obtain ⟨h1, h2, h3⟩ := hp
  rcases hown.2 with ⟨he, h0⟩ | ⟨g', cap, cur, fr, he, hb', hg, hf, hnc, hcm, hcs, htk⟩
  · cases he
  · simp only [Value.slice.injEq, Option.some.injEq, Addr.mk.injEq, and_true] at he
    obtain ⟨rfl, rfl, rfl⟩ := he
    have hsp := fun j (hj : j < c) => row_spare (w := w) hg hf (by omega) j (by omega)
    have hr := run_copy_string (P := Try.prog) w 38 9 ty 5 g 0 l.length c s Try.underlying38 (fun w => by simp [sizeOf, typeInfo, hi, hs]) h3
      (fun j hj => by rw [Nat.zero_add]; exact (hsp j (by omega)).1) (fun j hj => by rw [Nat.zero_add]; exact (hsp j (by omega)).2)
    unfold Oper.wp execOp
    simp only [resolve, invoke, builtin, Sem.run_bind, Sem.run_pure, Result.andThen_ok, List.map_toArray, List.map_cons, List.map_nil, h1, h2, hr]
    have q1 := blk_setCells (s.data.toList.map b8) 0 w cur hg
    have hl : s.data.toList.length = s.size := by simp
    have q2 := putArr_list (s.data.toList.map b8) 0 cur (by simp; omega)
    have q3 : (putArr cur 0 (s.data.toList.map b8)).size = cur.size := by rw [← Array.length_toList, q2]; simp; omega
    have q4 : (s.data.toList ++ l.drop s.size).length = l.length := by simp; omega
    refine h _ ⟨?_, .inr ⟨g, c, _, fr, ?_, hb', q1, hf, ?_, hcm, by omega, ?_⟩⟩ (grown_setCells _ _)
    · simp
    · rw [q4]
    · rw [q4]; exact hnc
    · rw [q4, q2, List.map_append, List.map_drop, ← htk, List.take_zero, List.nil_append, List.length_map, hl, Nat.zero_add, Nat.mul_one]
      rw [List.take_append, List.take_of_length_le (by simp; omega), List.drop_take]
      simp
end
theorem sha_len (l : List UInt8) : (sha l).length = 32 := by simp [sha, S8.text, be4]
theorem key_len (l : List UInt8) : (key l).length = 64 := by
  unfold key
  by_cases h : l.length > 64
  · simp [h, sha_len]
  · simp [h]; omega
end Go.Proofs.Ytkdakmddlkgjkaa
