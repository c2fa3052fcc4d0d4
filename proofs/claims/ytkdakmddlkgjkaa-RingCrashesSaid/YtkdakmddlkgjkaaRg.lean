import Derived.Outline
import Derived.Deep.RegionHeld3
import Derived.Test.YtkdakmddlkgjkaaOct
import Derived.Test.YtkdakmddlkgjkaaPl
open Go.RowKit Go.Lib
namespace Go.Proofs.Ytkdakmddlkgjkaa
set_option maxRecDepth 100000
open Sha
/-! octet.Get, and the entries of the journal. -/
def fN (n : Nat) : Int := (n : Int)
theorem or_add (u b i : Nat) (h : u < 2 ^ (8 * i)) (hi : i < 8) (hb : b < 256) : bits .or .u64 (u : Int) ((b : Int) * 2 ^ (8 * i) % 18446744073709551616) = ((u + 2 ^ (8 * i) * b : Nat) : Int) := by
  have h64 : 2 ^ (8 * i) * b < 18446744073709551616 := by
    have h1 : 2 ^ (8 * i) ≤ 2 ^ 56 := Nat.pow_le_pow_right (by decide) (by omega)
    have h2 : 2 ^ (8 * i) * b ≤ 2 ^ 56 * 255 := Nat.mul_le_mul h1 (by omega)
    omega
  have e1 : (b : Int) * 2 ^ (8 * i) % 18446744073709551616 = ((2 ^ (8 * i) * b : Nat) : Int) := by
    have : (b : Int) * 2 ^ (8 * i) = ((2 ^ (8 * i) * b : Nat) : Int) := by
      rw [Int.natCast_mul, Int.mul_comm]; simp
    rw [this]
    omega
  rw [e1]
  show IntKind.u64.wrap (((BitVec.ofInt 64 (u : Int) ||| BitVec.ofInt 64 ((2 ^ (8 * i) * b : Nat) : Int)).toNat : Nat) : Int) = _
  have hu : u + 2 ^ (8 * i) * b < 18446744073709551616 := by
    have h1 : 2 ^ (8 * i) ≤ 2 ^ 56 := Nat.pow_le_pow_right (by decide) (by omega)
    have h2 : 2 ^ (8 * i) * b ≤ 2 ^ 56 * 255 := Nat.mul_le_mul h1 (by omega)
    omega
  have e2 : (BitVec.ofInt 64 (u : Int) ||| BitVec.ofInt 64 ((2 ^ (8 * i) * b : Nat) : Int)).toNat = u + 2 ^ (8 * i) * b := by
    rw [BitVec.ofInt_natCast, BitVec.ofInt_natCast, BitVec.toNat_or, BitVec.toNat_ofNat, BitVec.toNat_ofNat, Nat.mod_eq_of_lt (by omega), Nat.mod_eq_of_lt h64, Nat.or_comm, Nat.add_comm, Nat.two_pow_add_eq_or_of_lt h]
  rw [e2, IntKind.wrap_u64]
  omega
/-- a number of eight bytes, as int has it -/
def sg (n : Nat) : Int := if n < 9223372036854775808 then n else (n : Int) - 18446744073709551616
theorem num_succ (l : List UInt8) (a j : Nat) (h : a + j < l.length) : num l a (j + 1) = num l a j + 2 ^ (8 * j) * (l.getD (a + j) 0).toNat := by
  unfold num
  have hl : ((l.drop a).take j).length = j := by rw [List.length_take, List.length_drop]; omega
  rw [List.take_succ_eq_append_getElem (by simp; omega), gn_append, hl]
  simp only [gn, Nat.mul_zero, Nat.add_zero, List.getElem_drop]
  rw [List.getD_eq_getElem?_getD, List.getElem?_eq_getElem h]; rfl
theorem num_lt (l : List UInt8) (a j : Nat) : num l a j < 2 ^ (8 * j) := by
  unfold num
  have h := gn_lt ((l.drop a).take j)
  exact Nat.lt_of_lt_of_le h (Nat.pow_le_pow_right (by decide) (by have := List.length_take_le j (l.drop a); omega))
set_option maxHeartbeats 1000000 in
theorem get_c (l : List UInt8) (a k : Nat) (hk : Wd k) (hl : a + k ≤ l.length) (hb : l.length < 9223372036854775808) (w : World) :
    Calls Try.prog 86 #[.string ⟨l.toArray⟩, .int .i64 (a : Int), .int .i64 (k : Int)] w fun e w' => e = .returned (.tuple #[.int .i64 (sg (num l a k)), .int .i64 0]) ∧ w = w' := by
  have h1 : 0 < k ∧ k ≤ 8 := by rcases hk with rfl | rfl | rfl | rfl <;> decide
  obtain ⟨h2, h3⟩ := h1
  have t0 : (0 : Int) ≤ (a : Int) := by omega
  have t1 : ¬ (l.length : Int) < (a : Int) := by omega
  have t2 : ¬ (l.length : Int) - (a : Int) < (k : Int) := by omega
  go_enter Try.func86, Try.ntmps86
  go_wp2_with fail
  refine (wide_c k hk w).mono ?_
  rintro e w1 ⟨rfl, rfl⟩
  go_wp2_with fail
  clear t0 t1 t2
  go_loop [8, 32] (fun u i => ∃ j : Nat, j ≤ k ∧ i = .int .i64 (j : Int) ∧ u = .int .u64 ((num l a j : Nat) : Int)) (fun _ i => k - (intOf i).toNat)
  case atStart => exact ⟨0, Nat.zero_le _, rfl, by simp [num, gn]⟩
  case round =>
    obtain ⟨j, hj, rfl, rfl⟩ := hrel
    by_cases hlt : j < k
    · obtain ⟨x, hx⟩ : ∃ x, x = l.getD (a + j) 0 := ⟨_, rfl⟩
      have i1 : (Instr.index 9 (.string ⟨l.toArray⟩) (.int .i64 ((a : Int) + (j : Int)))).run Try.prog w1 = .ok (.int .u8 (bn x)) w1 := by
        have := ix_str l (a + j) (by omega) x hx w1
        rwa [Int.natCast_add] at this
      obtain ⟨u, hu⟩ : ∃ u, num l a j = u := ⟨_, rfl⟩
      obtain ⟨v, hv⟩ : ∃ v, num l a (j + 1) = v := ⟨_, rfl⟩
      have hs := num_succ l a j (by omega)
      have hlt2 := num_lt l a j
      rw [← hx, hu, hv] at hs
      rw [hu] at hlt2 ⊢
      have ho : bits .or .u64 (u : Int) (IntKind.u64.wrap (bn x * 2 ^ (8 * j))) = (v : Int) := by
        rw [hs, IntKind.wrap_u64]; exact or_add u x.toNat j hlt2 (by omega) x.toNat_lt
      have b0 : 0 ≤ bn x := by unfold bn; omega
      have b1 : bn x < 256 := by have := x.toNat_lt; unfold bn; omega
      have HV := Hd.mk hv
      clear hx hu hv hs hlt2
      go_wp2_with fail
      go_round
      case rel => exact ⟨j + 1, hlt, by go_num, by rw [HV.out]⟩
      case measure => simp [intOf]; omega
    · have hjk : j = k := by omega
      have HJ := Hd.mk hjk
      clear hjk
      go_wp2_with fail
      go_ret2
      refine ⟨?_, rfl⟩
      have e : sg (num l a k) = wrap64 ((num l a j : Nat) : Int) := by
        rw [HJ.out]
        have h1 := num_lt l a k
        have h2 : 2 ^ (8 * k) ≤ 2 ^ 64 := Nat.pow_le_pow_right (by decide) (by omega)
        unfold sg wrap64
        split <;> omega
      rw [e]
      rfl
theorem rget_c (l : List UInt8) (a k : Nat) (hk : Wd k) (hk8 : k ≤ 4) (hl : a + k ≤ l.length) (hb : l.length < 9223372036854775808) (w : World) :
    Calls Try.prog 57 #[.string ⟨l.toArray⟩, .int .i64 (a : Int), .int .i64 (k : Int)] w fun e w' => e = .returned (.int .i64 ((num l a k : Nat) : Int)) ∧ w = w' := by
  have e : sg (num l a k) = ((num l a k : Nat) : Int) := by
    have h1 := num_lt l a k
    have h2 : 2 ^ (8 * k) ≤ 2 ^ 32 := Nat.pow_le_pow_right (by decide) (by omega)
    unfold sg
    rw [if_pos (by omega)]
  have HG := get_c l a k hk hl hb w
  rw [e] at HG
  clear e
  go_enter Try.func57, Try.ntmps57
  go_wp2_with fail
  refine HG.mono ?_
  rintro e w1 ⟨rfl, rfl⟩
  clear HG
  go_wp2
  go_ret
  exact ⟨rfl, rfl⟩
/-- numbers in bytes, each in its width -/
def puts (l : List (Nat × Int)) : List UInt8 := l.flatMap fun p => le p.2 p.1
def pcells (l : List (Nat × Int)) : List Value := l.flatMap fun p => [.int .i64 (p.1 : Int), .int .i64 p.2]
theorem pcells_at : ∀ (l : List (Nat × Int)) (k : Nat) (h : k < l.length), (pcells l)[2 * k]? = some (.int .i64 (l[k].1 : Int)) ∧ (pcells l)[2 * k + 1]? = some (.int .i64 l[k].2)
  | p :: W, 0, _ => ⟨rfl, rfl⟩
  | p :: W, k + 1, h => by
    have := pcells_at W k (by simpa using h)
    have e : pcells (p :: W) = .int .i64 (p.1 : Int) :: .int .i64 p.2 :: pcells W := rfl
    rw [e, Nat.mul_add]
    exact this
theorem puts_take (l : List (Nat × Int)) (k : Nat) (h : k < l.length) : puts (l.take (k + 1)) = puts (l.take k) ++ le l[k].2 l[k].1 := by
  unfold puts
  rw [List.take_succ_eq_append_getElem h, List.flatMap_append]
  simp
theorem puts_len (l : List (Nat × Int)) (h : ∀ p ∈ l, p.1 ≤ 8) : (puts l).length ≤ 8 * l.length := by
  induction l with
  | nil => simp [puts]
  | cons p l ih =>
    have h1 := h p (by simp)
    have h2 := ih fun q hq => h q (by simp [hq])
    unfold puts at h2 ⊢
    rw [List.flatMap_cons, List.length_append, le_len, List.length_cons]
    omega
theorem cat_lists (a b : List UInt8) : ({ data := a.toArray } : ByteArray) ++ { data := b.toArray } = ⟨(a ++ b).toArray⟩ := by
  apply ByteArray.ext; simp
set_option maxHeartbeats 1000000 in
theorem rput_c (l : List (Nat × Int)) (hl : ∀ p ∈ l, Wd p.1 ∧ p.1 < 8 ∧ 0 ≤ p.2 ∧ p.2 < 2 ^ (8 * p.1)) (hn : l.length < 1000) (g : Nat) (w : World) (hg : w.heap[g]? = some (.cells (pcells l).toArray 3 (0, 0))) :
    Calls Try.prog 52 #[.slice (some ⟨g, 0, none⟩) (2 * l.length) (2 * l.length)] w fun e w' => e = .returned (.string ⟨(puts l).toArray⟩) ∧ Below w.heap.size w w' := by
  have HG := Hd.mk hg
  have HL := Hd.mk hl
  obtain ⟨n, hn2⟩ : ∃ n, l.length = n := ⟨_, rfl⟩
  rw [hn2] at hn ⊢
  have HN := Hd.mk hn2
  clear hg hl hn2
  go_enter Try.func52, Try.ntmps52
  go_wp2_with fail
  go_loopw [3, 4] (fun s i wr => ∃ k : Nat, k ≤ n ∧ i = .int .i64 ((2 * k : Nat) : Int) ∧ s = .string ⟨(puts (l.take k)).toArray⟩ ∧ Hd (Below w.heap.size w wr)) (fun _ i _ => 2 * n - (intOf i).toNat)
  case atStart => exact ⟨0, Nat.zero_le _, rfl, by simp [puts], ⟨Below.refl _ _⟩⟩
  case round =>
    obtain ⟨k, hk, rfl, rfl, HB⟩ := hrel
    by_cases hlt : k < n
    · have hkl : k < l.length := by rw [HN.out]; exact hlt
      have hgw : wr.heap[g]? = some (.cells (pcells l).toArray 3 (0, 0)) := by rw [HB.out.block g (blk_lt HG.out)]; exact HG.out
      obtain ⟨q1, q2⟩ := pcells_at l k hkl
      have c1 : wr.cell? ⟨g, 2 * k, none⟩ = some (.int .i64 (l[k].1 : Int)) := by rw [blk_cell hgw, List.getElem?_toArray]; exact q1
      have c2 : wr.cell? ⟨g, 2 * k + 1, none⟩ = some (.int .i64 l[k].2) := by rw [blk_cell hgw, List.getElem?_toArray]; exact q2
      obtain ⟨x, hx⟩ : ∃ x, l[k].1 = x := ⟨_, rfl⟩
      obtain ⟨y, hy⟩ : ∃ y, l[k].2 = y := ⟨_, rfl⟩
      have hw := HL.out l[k] (List.getElem_mem hkl)
      rw [hx, hy] at hw
      rw [hx] at c1
      rw [hy] at c2
      have HX := Hd.mk hx
      have HY := Hd.mk hy
      have HW := Hd.mk hw
      have hb1 : (2 * (k : Int) + 1) < ((2 * n : Nat) : Int) := by omega
      clear hx hy hw q1 q2 hgw
      go_wp2_with fail
      have s1 : IntKind.i64.wrap (((2 * k : Nat) : Int) + 1) = ((2 * k : Nat) : Int) + 1 := IntWalk.i64_in _ (by omega)
      have s2 : (0 : Int) ≤ ((2 * k : Nat) : Int) + 1 := by omega
      have s3 : (((2 * k : Nat) : Int) + 1).toNat = 2 * k + 1 := by omega
      have s4 : ((2 * k : Nat) : Int) + 1 < ((2 * n : Nat) : Int) := by omega
      have s5 : ((2 * k : Nat) : Int) < ((2 * n : Nat) : Int) := by omega
      have v1 : IntKind.i64.wrap (2 * (k : Int) + 1) = 2 * (k : Int) + 1 := IntWalk.i64_in _ (by omega)
      have v2 : (0 : Int) ≤ 2 * (k : Int) + 1 := by omega
      have v3 : (2 * (k : Int) + 1).toNat = 2 * k + 1 := by omega
      have v4 : 2 * (k : Int) + 1 < 2 * (n : Int) := by omega
      have v5 : 2 * (k : Int) < 2 * (n : Int) := by omega
      have v6 : (0 : Int) ≤ 2 * (k : Int) := by omega
      have v7 : (2 * (k : Int)).toNat = 2 * k := by omega
      have v8 : (0 : Int) ≤ ((2 * k : Nat) : Int) := by omega
      have hglt : g < wr.heap.size := by have := blk_lt HG.out; have := HB.out.size; omega
      have hput := put_c y x HW.out.1 (by have h1 := HW.out.2.2.1; have h2 := HW.out.2.2.2; have h3 : (2 : Int) ^ (8 * x) ≤ 2 ^ 56 := (by exact_mod_cast Nat.pow_le_pow_right (show 0 < 2 by decide) (show 8 * x ≤ 56 by have := HW.out.2.1; omega)); omega) (.inr HW.out.2.2)
      go_region_held3 (fun w' => w'.cell? ⟨g, 2 * k, none⟩ = some (.int .i64 (x : Int)) ∧ w'.cell? ⟨g, 2 * k + 1, none⟩ = some (.int .i64 y)) (first | exact ⟨c1, c2⟩ | exact ⟨d1, d2⟩)
        (first | (go_at_call 77; refine (hput _).mono ?_; rintro e w1 ⟨rfl, hb⟩; have d1 := (hb.cell (p := ⟨g, 2 * k, none⟩) hglt).trans c1; have d2 := (hb.cell (p := ⟨g, 2 * k + 1, none⟩) hglt).trans c2))
      all_goals
        have HB1 : Hd (Below w.heap.size w w1) := ⟨HB.out.drew.trans (hb.mono HB.out.size)⟩
        have hov : (puts (l.take k)).length + (le y x).length < 9223372036854775807 := by
          have h1 := puts_len (l.take k) fun p hp => Nat.le_of_lt (HL.out p (List.mem_of_mem_take hp)).2.1
          have h2 := List.length_take_le k l
          have h3 := HW.out.2.1
          rw [le_len]
          omega
        clear hb d1 d2 c1 c2 hput v1 v2 v3 v4 v5 v6 v7 v8 s1 s2 s3 s4 s5 hglt hb1
        go_wp2_with fail
        rw [cat_lists]
        go_roundw
        case rel => exact ⟨k + 1, hlt, by go_num, by rw [puts_take l k hkl, HX.out, HY.out], HB1⟩
        case measure => simp [intOf]; omega
    · have hkn : k = n := by omega
      have HK := Hd.mk hkn
      have hb1 : ¬ (2 * (k : Int) + 1) < ((2 * n : Nat) : Int) := by omega
      clear hkn
      go_wp2_with fail
      go_ret
      exact ⟨by rw [List.take_of_length_le (by rw [HN.out, HK.out]; exact Nat.le_refl _)]; rfl, HB.out⟩
end Go.Proofs.Ytkdakmddlkgjkaa
