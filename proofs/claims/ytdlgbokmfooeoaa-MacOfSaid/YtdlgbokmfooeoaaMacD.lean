import Derived.Test.YtdlgbokmfooeoaaMacC
open Go.RowKit Go.Lib
namespace Go.Proofs.Ytdlgbokmfooeoaa
set_option maxRecDepth 100000
open Sha
theorem ix_str (l : List UInt8) (k : Nat) (hk : k < l.length) (x : UInt8) (hx : x = l.getD k 0) (w : World) : (Instr.index 9 (.string ⟨l.toArray⟩) (.int .i64 k)).run Try.prog w = .ok (.int .u8 (bn x)) w := by
  subst hx
  have h1 : (0 : Int) ≤ k := by omega
  have h2 : ((k : Int) < ((ByteArray.mk l.toArray).size : Nat)) := by show (k : Int) < (l.length : Nat); omega
  rw [run_index_string w 9 ⟨l.toArray⟩ .i64 k Try.underlying9, dif_pos ⟨h1, h2⟩]
  have e : (ByteArray.mk l.toArray)[(k : Int).toNat]'(by show k < l.length; exact hk) = l.getD k 0 := by
    show l.toArray[(k : Int).toNat]'(by simpa using hk) = _
    simp [List.getD, hk]
  rw [e]
  rfl
def od (W T : List UInt8) : Nat → UInt8
  | 0 => 0
  | k + 1 => od W T k ||| (W.getD k 0 ^^^ T.getD k 0)
theorem od_zero (W T : List UInt8) (n : Nat) : od W T n = 0 ↔ ∀ k, k < n → W.getD k 0 = T.getD k 0 := by
  induction n with
  | zero => simp [od]
  | succ n ih =>
    rw [od, UInt8.or_eq_zero_iff, ih, UInt8.xor_eq_zero_iff]
    constructor
    · rintro ⟨h1, h2⟩ k hk
      rcases Nat.lt_or_ge k n with h | h
      · exact h1 k h
      · rw [show k = n by omega]; exact h2
    · exact fun h => ⟨fun k hk => h k (by omega), h n (by omega)⟩
theorem od_eq (W T : List UInt8) (h : T.length = W.length) : (od W T W.length = 0) ↔ T = W := by
  rw [od_zero]
  constructor
  · intro h1
    apply List.ext_getElem h
    intro i h2 h3
    have := h1 i h3
    rw [List.getD_eq_getElem?_getD, List.getD_eq_getElem?_getD, List.getElem?_eq_getElem h2, List.getElem?_eq_getElem h3] at this
    exact this.symm
  · rintro rfl k _; rfl
set_option maxRecDepth 100000 in
set_option maxHeartbeats 1000000 in
theorem right_of (k s : ByteArray) (tl : List UInt8) (w : World) (hk : k.size ≤ 140737488355200) (hs : s.size ≤ 1407374883552) (_ht : tl.length ≤ 140737488355200) :
    Calls Try.prog 14 #[.string k, .string s, .string ⟨tl.toArray⟩] w fun e w' => e = .returned (.bool (decide (tl = mac k.data.toList s.data.toList))) ∧ Below w.heap.size w w' := by
  obtain ⟨W, hW⟩ : ∃ W, mac k.data.toList s.data.toList = W := ⟨_, rfl⟩
  have hl : W.length = 32 := by rw [← hW]; exact sha_len _
  rw [hW]
  have HW := Hd.mk hW
  have HL := Hd.mk hl
  clear hW hl
  go_enter Try.func14, Try.ntmps14
  go_wp2_with fail
  refine (mac_c k s w hk hs).mono ?_
  rintro e w1 ⟨rfl, hb⟩
  rw [HW.out]
  have G1 := Hd.mk hb
  clear hb
  by_cases hc : tl.length = 32
  · have hc1 : ((tl.length : Int) != (W.length : Int)) = false := by rw [bne_eq_false_iff_eq, HL.out]; omega
    have HC := Hd.mk hc
    clear hc
    go_wp2_with fail
    go_loopw [8, 20] (fun o i wr => ∃ j : Nat, i = .int .i64 j ∧ j ≤ 32 ∧ o = .int .u8 (bn (od W tl j)) ∧ Below w.heap.size w wr) (fun _ i _ => 32 - (intOf i).toNat)
    case atStart => exact ⟨0, rfl, by omega, rfl, G1.out⟩
    case round =>
      obtain ⟨j, rfl, hj, rfl, hb⟩ := hrel
      have HB := Hd.mk hb
      clear hb
      by_cases hlt : j < 32
      · have hlt1 : j < W.length := by rw [HL.out]; exact hlt
        obtain ⟨x, hx⟩ : ∃ x, x = W.getD j 0 := ⟨_, rfl⟩
        obtain ⟨y, hy⟩ : ∃ y, y = tl.getD j 0 := ⟨_, rfl⟩
        have i1 := ix_str W j (by rw [HL.out]; exact hlt) x hx
        have i2 := ix_str tl j (by rw [HC.out]; exact hlt) y hy
        have A1 := b_xor
        have A2 := b_or
        have HX := Hd.mk hx
        have HY := Hd.mk hy
        clear hx hy
        go_wp2
        go_quiet (fail)
        go_wp2
        go_roundw
        case rel =>
          refine ⟨j + 1, by go_num, hlt, ?_, Below.drewN HB.out _⟩
          rw [od, ← HX.out, ← HY.out]
        case measure => simp [intOf]; omega
      · have hlt1 : ¬ j < W.length := by rw [HL.out]; exact hlt
        have hj32 : j = W.length := by rw [HL.out]; omega
        have HJ := Hd.mk hj32
        clear hj32
        go_wp2
        go_ret
        refine ⟨?_, HB.out⟩
        have e : (bn (od W tl j) == 0) = decide (tl = W) := by
          have h1 := od_eq W tl (by rw [HC.out, HL.out])
          rw [HJ.out, Bool.eq_iff_iff, beq_iff_eq, decide_eq_true_eq, ← h1]
          constructor
          · intro h2
            apply UInt8.toNat_inj.1
            have : ((od W tl W.length).toNat : Int) = 0 := h2
            simpa using this
          · intro h2; rw [h2]; rfl
        exact congrArg (fun b => Ending.returned (.bool b)) e
  · have hc1 : ((tl.length : Int) != (W.length : Int)) = true := by rw [bne_iff_ne, HL.out]; omega
    have HC := Hd.mk hc
    clear hc
    go_wp2_with fail
    go_ret
    refine ⟨?_, G1.out⟩
    have : ¬ tl = W := fun h => HC.out (by rw [h]; exact HL.out)
    rw [decide_eq_false this]
    rfl
end Go.Proofs.Ytdlgbokmfooeoaa
