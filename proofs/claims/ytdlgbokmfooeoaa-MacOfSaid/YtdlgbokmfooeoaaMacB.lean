import Derived.Test.YtdlgbokmfooeoaaMacA
open Go.RowKit Go.Lib
namespace Go.Proofs.Ytdlgbokmfooeoaa
set_option maxRecDepth 100000
open Sha
/-- a byte's number, behind a name that simp does not open -/
def bn (x : UInt8) : Int := (x.toNat : Int)
theorem b_bv (x : UInt8) : BitVec.ofInt 8 (x.toNat : Int) = x.toBitVec := by
  rw [BitVec.ofInt_natCast]; exact BitVec.eq_of_toNat_eq (by rw [BitVec.toNat_ofNat, UInt8.toNat_toBitVec]; exact Nat.mod_eq_of_lt x.toNat_lt)
theorem wr8 (n : Nat) (h : n < 256) : IntKind.u8.wrap (n : Int) = n := by rw [IntKind.wrap_u8]; omega
theorem b_xor (x y : UInt8) : bits .xor .u8 (bn x) (bn y) = bn (x ^^^ y) := by
  show IntKind.u8.wrap (((BitVec.ofInt 8 (x.toNat : Int) ^^^ BitVec.ofInt 8 (y.toNat : Int)).toNat : Nat) : Int) = _
  rw [b_bv, b_bv]; exact wr8 _ (x ^^^ y).toNat_lt
theorem b_or (x y : UInt8) : bits .or .u8 (bn x) (bn y) = bn (x ||| y) := by
  show IntKind.u8.wrap (((BitVec.ofInt 8 (x.toNat : Int) ||| BitVec.ofInt 8 (y.toNat : Int)).toNat : Nat) : Int) = _
  rw [b_bv, b_bv]; exact wr8 _ (x ||| y).toNat_lt
theorem b_and (x y : UInt8) : bits .and .u8 (bn x) (bn y) = bn (x &&& y) := by
  show IntKind.u8.wrap (((BitVec.ofInt 8 (x.toNat : Int) &&& BitVec.ofInt 8 (y.toNat : Int)).toNat : Nat) : Int) = _
  rw [b_bv, b_bv]; exact wr8 _ (x &&& y).toNat_lt
section
variable {w : World} {base g n c : Nat} {l : List UInt8}
theorem OwnB.at (h : OwnB w base (.slice (some ⟨g, 0, none⟩) n c) l) (k : Nat) (hk : k < l.length) : w.cell? ⟨g, k, none⟩ = some (.int .u8 (bn l[k])) ∧ w.frozen? ⟨g, k, none⟩ = false := by
  rcases h.2 with ⟨he, h0⟩ | ⟨g', cap, cur, fr, he, hb', hg, hf, hnc, hcm, hcs, htk⟩
  · cases he
  · simp only [Value.slice.injEq, Option.some.injEq, Addr.mk.injEq, and_true] at he
    obtain ⟨rfl, rfl, rfl⟩ := he
    refine ⟨?_, (row_spare (w := w) hg hf (by omega) k (by omega)).2⟩
    have e : (l.map b8)[k]? = some (.int .u8 (bn l[k])) := by rw [List.getElem?_map, List.getElem?_eq_getElem hk]; rfl
    rw [blk_cell hg, ← e, ← htk, List.getElem?_take_of_lt (by omega)]
    simp
theorem OwnB.store (h : OwnB w base (.slice (some ⟨g, 0, none⟩) n c) l) (k : Nat) (_hk : k < l.length) (x : UInt8) :
    OwnB (w.setCell ⟨g, k, none⟩ (.int .u8 (bn x))) base (.slice (some ⟨g, 0, none⟩) n c) (l.set k x) := by
  rcases h.2 with ⟨he, h0⟩ | ⟨g', cap, cur, fr, he, hb', hg, hf, hnc, hcm, hcs, htk⟩
  · cases he
  · simp only [Value.slice.injEq, Option.some.injEq, Addr.mk.injEq, and_true] at he
    obtain ⟨rfl, rfl, rfl⟩ := he
    refine ⟨by simp, .inr ⟨g, c, _, fr, by rw [List.length_set], hb', blk_set hg k _, hf, by rw [List.length_set]; exact hnc, hcm, by simpa using hcs, ?_⟩⟩
    rw [List.length_set, Array.toList_setIfInBounds, List.take_set, htk, List.map_set]
    rfl
end
def xr (c : UInt8) (l : List UInt8) (k : Nat) : List UInt8 := (l.take k).map (· ^^^ c) ++ l.drop k
theorem xr_len (c : UInt8) (l : List UInt8) (k : Nat) : (xr c l k).length = l.length := by simp [xr]; omega
theorem xr_0 (c : UInt8) (l : List UInt8) : xr c l 0 = l := by simp [xr]
theorem xr_all (c : UInt8) (l : List UInt8) (k : Nat) (h : l.length ≤ k) : xr c l k = l.map (· ^^^ c) := by simp [xr, List.take_of_length_le h, h]
theorem xr_at (c : UInt8) (l : List UInt8) (k : Nat) (h : k < l.length) (h' : k < (xr c l k).length) : (xr c l k)[k] = l[k] := by
  have e : (xr c l k)[k]? = l[k]? := by
    unfold xr
    rw [List.getElem?_append_right (by simp; omega)]
    simp [Nat.min_eq_left (Nat.le_of_lt h)]
  rw [List.getElem?_eq_getElem h', List.getElem?_eq_getElem h] at e
  exact Option.some.inj e
theorem xr_succ (c : UInt8) (l : List UInt8) (k : Nat) (h : k < l.length) : (xr c l k).set k (l[k] ^^^ c) = xr c l (k + 1) := by
  unfold xr
  rw [List.set_append_right _ _ (by simp; omega), List.take_succ_eq_append_getElem h, List.map_append, List.append_assoc]
  congr 1
  have e : k - ((l.take k).map (· ^^^ c)).length = 0 := by simp; omega
  rw [e, List.drop_eq_getElem_cons h, List.set_cons_zero]
  rfl
set_option maxRecDepth 100000 in
set_option maxHeartbeats 1000000 in
theorem mixed1_c (c : UInt8) (g : Nat) (s : ByteArray) (w : World) (hs : s.size ≤ 140737488355200) (hg : w.cell? ⟨g, 0, none⟩ = some (.string s)) :
    Calls Try.prog 21 #[.int .u8 (bn c), .pointer (some ⟨g, 0, none⟩)] w fun e w' => e = .returned (.string ⟨(s.data.toList.map (· ^^^ c)).toArray⟩) ∧ Below w.heap.size w w' := by
  have hl : s.data.toList.length = s.size := by simp
  obtain ⟨l, hll⟩ : ∃ l, s.data.toList = l := ⟨_, rfl⟩
  rw [hll] at hl ⊢
  obtain ⟨n, hn⟩ : ∃ n, s.size = n := ⟨_, rfl⟩
  have hnb : n ≤ 140737488355200 := by omega
  have HLL := Hd.mk hll
  have HL := Hd.mk hl
  have HN := Hd.mk hn
  clear hll hl hn
  go_enter Try.func21, Try.ntmps21
  go_wp2_with ((with_reducible refine wpList_plain rfl fun K hK => W_convB (.tmp 6) s ?hp fun cp w1 h1 h2 h3 => hK _ _ ?_); (case hp => exact ⟨rfl, by omega⟩); have G1 := Hd.mk h1; have G2 := Hd.mk h2; have G3 := Hd.mk h3; clear h1 h2 h3)
  rw [HN.out]
  go_loopw [10] (fun i wr => ∃ k : Nat, i = .int .i64 k ∧ k ≤ n ∧ OwnB wr w.heap.size (.slice (some ⟨w.heap.size, 0, none⟩) n cp) (xr c l k) ∧ Below w.heap.size w wr) (fun i _ => n - (intOf i).toNat)
  case atStart => exact ⟨0, rfl, by omega, by rw [xr_0, ← HLL.out, ← HN.out]; exact G1.out, G2.out⟩
  case round =>
    obtain ⟨k, rfl, hk, hown, hb⟩ := hrel
    have HO := Hd.mk hown
    have HB := Hd.mk hb
    clear hown hb
    by_cases hlt : k < n
    · have hkl : k < l.length := by rw [HL.out, HN.out]; exact hlt
      obtain ⟨x, hx⟩ : ∃ x, x = l[k] := ⟨_, rfl⟩
      have HX := Hd.mk hx
      have HX1 : Hd ((xr c l k)[k]'(by rw [xr_len]; exact hkl) = x) := ⟨by rw [xr_at c l k hkl, HX.out]⟩
      have cx := (HO.out.at k (by rw [xr_len]; exact hkl)).1
      rw [HX1.out] at cx
      have cf := (HO.out.at k (by rw [xr_len]; exact hkl)).2
      have A1 := b_xor
      have HKL := Hd.mk hkl
      clear hx
      go_wp2
      go_roundw
      case rel =>
        have e := xr_succ c l k HKL.out
        rw [← HX.out] at e
        refine ⟨k + 1, by go_num, hlt, ?_, HB.out.setCell (p := ⟨w.heap.size, k, none⟩) (Nat.le_refl _) _⟩
        rw [← e]; exact HO.out.store k (by rw [xr_len]; exact HKL.out) _
      case measure => simp [intOf]; omega
    · have hv := HO.out
      rw [xr_all c l k (by rw [HL.out, HN.out]; omega)] at hv
      have hst := run_strof 35 hv Try.underlying35 9 Try.underlying9
      clear hv
      go_wp2
      go_ret
      exact ⟨rfl, HB.out⟩
/-- the law's own -/
theorem lawmixed_c (c : UInt8) (s : ByteArray) (w : World) (hs : s.size ≤ 140737488355200) :
    Calls Try.prog 12 #[.string s, .int .u8 (bn c)] w fun e w' => e = .returned (.string ⟨(s.data.toList.map (· ^^^ c)).toArray⟩) ∧ Below w.heap.size w w' := by
  have hl : s.data.toList.length = s.size := by simp
  obtain ⟨l, hll⟩ : ∃ l, s.data.toList = l := ⟨_, rfl⟩
  rw [hll] at hl ⊢
  obtain ⟨n, hn⟩ : ∃ n, s.size = n := ⟨_, rfl⟩
  have hnb : n ≤ 140737488355200 := by omega
  have HLL := Hd.mk hll
  have HL := Hd.mk hl
  have HN := Hd.mk hn
  clear hll hl hn
  go_enter Try.func12, Try.ntmps12
  go_wp2_with ((with_reducible refine wpList_plain rfl fun K hK => W_convB (.tmp 7) s ?hp fun cp w1 h1 h2 h3 => hK _ _ ?_); (case hp => exact ⟨rfl, by omega⟩); have G1 := Hd.mk h1; have G2 := Hd.mk h2; have G3 := Hd.mk h3; clear h1 h2 h3)
  rw [HN.out]
  go_loopw [6] (fun i wr => ∃ k : Nat, i = .int .i64 k ∧ k ≤ n ∧ OwnB wr w.heap.size (.slice (some ⟨w.heap.size, 0, none⟩) n cp) (xr c l k) ∧ Below w.heap.size w wr) (fun i _ => n - (intOf i).toNat)
  case atStart => exact ⟨0, rfl, by omega, by rw [xr_0, ← HLL.out, ← HN.out]; exact G1.out, G2.out⟩
  case round =>
    obtain ⟨k, rfl, hk, hown, hb⟩ := hrel
    have HO := Hd.mk hown
    have HB := Hd.mk hb
    clear hown hb
    by_cases hlt : k < n
    · have hkl : k < l.length := by rw [HL.out, HN.out]; exact hlt
      obtain ⟨x, hx⟩ : ∃ x, x = l[k] := ⟨_, rfl⟩
      have HX := Hd.mk hx
      have HX1 : Hd ((xr c l k)[k]'(by rw [xr_len]; exact hkl) = x) := ⟨by rw [xr_at c l k hkl, HX.out]⟩
      have cx := (HO.out.at k (by rw [xr_len]; exact hkl)).1
      rw [HX1.out] at cx
      have cf := (HO.out.at k (by rw [xr_len]; exact hkl)).2
      have A1 := b_xor
      have HKL := Hd.mk hkl
      clear hx
      go_wp2
      go_roundw
      case rel =>
        have e := xr_succ c l k HKL.out
        rw [← HX.out] at e
        refine ⟨k + 1, by go_num, hlt, ?_, HB.out.setCell (p := ⟨w.heap.size, k, none⟩) (Nat.le_refl _) _⟩
        rw [← e]; exact HO.out.store k (by rw [xr_len]; exact HKL.out) _
      case measure => simp [intOf]; omega
    · have hv := HO.out
      rw [xr_all c l k (by rw [HL.out, HN.out]; omega)] at hv
      have hst := run_strof 35 hv Try.underlying35 9 Try.underlying9
      clear hv
      go_wp2
      go_ret
      exact ⟨rfl, HB.out⟩
def fnv (g : Nat) : Value := .func (.func 21) #[] #[.pointer (some ⟨g, 0, none⟩)]
theorem mixer_c (s : ByteArray) (w : World) (hs : s.size ≤ 140737488355200) :
    Calls Try.prog 15 #[.string s] w fun e w' => ∃ g, e = .returned (fnv g) ∧ w'.cell? ⟨g, 0, none⟩ = some (.string ⟨(key s.data.toList).toArray⟩) ∧ g < w'.heap.size ∧ Below w.heap.size w w' := by
  have hmf : ∀ (fn : Fn) (first cap : Array Value) (w : World), (Instr.makeFunc fn first cap).run Try.prog w = .ok (.func fn first cap) w := fun _ _ _ _ => rfl
  go_enter Try.func15, Try.ntmps15
  go_wp2_with fail
  refine (key_c s w hs).mono ?_
  rintro e w1 ⟨rfl, hb⟩
  have G1 := Hd.mk hb
  clear hb
  go_wp2
  go_ret
  exact ⟨w1.heap.size, rfl, blk_cell (blk_new w1 _ _ _ _ rfl) 0, by rw [sz_alloc]; omega, G1.out.alloc G1.out.size _⟩
end Go.Proofs.Ytdlgbokmfooeoaa
