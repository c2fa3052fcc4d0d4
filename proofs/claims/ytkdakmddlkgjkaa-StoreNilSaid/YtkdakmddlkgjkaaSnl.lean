import Derived.Outline
import Derived.Test.YtkdakmddlkgjkaaKn7b
open Go.RowKit Go.Lib
namespace Go.Proofs.Ytkdakmddlkgjkaa
set_option maxRecDepth 100000
open Sha
/-! StoreNil's walk. -/
theorem sopen_nil (w : World) : Calls Try.prog 41 #[.pointer none] w fun e w' => e = .returned (.tuple #[.pointer none, .int .i64 16]) ∧ Below w.heap.size w w' := by
  have HL := last_nil w
  change Calls Try.prog _ _ _ fun e w' => e = .returned (.tuple #[.agg #[.int .i64 0, .int .i64 0, .int .i64 0, .int .i64 0, .string ⟨#[]⟩], .bool false, .int .i64 16]) ∧ Below w.heap.size w w' at HL
  go_enter Try.func41, Try.ntmps41
  go_wp2_with fail
  refine HL.mono ?_
  rintro e w1 ⟨rfl, hb⟩
  have B1 := Hd.mk hb
  clear hb HL
  go_wp2_with fail
  go_ret2
  exact ⟨rfl, B1.out.alloc B1.out.size _⟩
theorem stext_nil (w : World) : Calls Try.prog 45 #[.pointer none] w fun e w' => e = .returned (.tuple #[.string ⟨#[]⟩, .bool false]) ∧ w = w' := by
  go_enter Try.func45, Try.ntmps45
  go_wp2_with (go_at_call 70; refine (sthere_nil _).mono ?_; rintro e w' ⟨rfl, rfl⟩)
  go_ret2
  exact ⟨rfl, rfl⟩
theorem swaits_nil (w : World) : Calls Try.prog 46 #[.pointer none] w fun e w' => e = .returned (.bool false) ∧ w = w' := by
  go_enter Try.func46, Try.ntmps46
  go_wp2_with (go_at_call 70; refine (sthere_nil _).mono ?_; rintro e w' ⟨rfl, rfl⟩)
  go_ret
  exact ⟨rfl, rfl⟩
theorem sodd_nil (w : World) : Calls Try.prog 48 #[.pointer none] w fun e w' => e = .returned (.bool false) ∧ w = w' := by
  go_enter Try.func48, Try.ntmps48
  go_wp2_with (go_at_call 70; refine (sthere_nil _).mono ?_; rintro e w' ⟨rfl, rfl⟩)
  go_ret
  exact ⟨rfl, rfl⟩
theorem scopy_nil (w : World) (v : Value) : Calls Try.prog 49 #[.pointer none, v] w fun e w' => e = .returned (.pointer none) ∧ w = w' := by
  go_enter Try.func49, Try.ntmps49
  go_wp2_with (go_at_call 70; refine (sthere_nil _).mono ?_; rintro e w' ⟨rfl, rfl⟩)
  go_ret
  exact ⟨rfl, rfl⟩
set_option maxHeartbeats 2000000 in
theorem snil_c (s : ByteArray) (w : World) : Calls Try.prog 12 #[.string s] w fun e w' => e = .returned (.bool true) ∧ Below w.heap.size w w' := by
  obtain ⟨l, hs⟩ : ∃ l : List UInt8, s = ⟨l.toArray⟩ := ⟨s.data.toList, rfl⟩
  subst hs
  by_cases h1 : 5000 < l.length
  · have h1' : (5000 : Int) < (l.length : Int) := by omega
    clear h1
    go_enter Try.func12, Try.ntmps12
    go_wp2_with fail
    refine (known7_c _).mono ?_
    rintro e w1 ⟨rfl, hb⟩
    have B1 := Hd.mk hb
    clear hb
    go_wp2_with fail
    go_ret
    exact ⟨rfl, B1.out⟩
  · have h1' : ¬ (5000 : Int) < (l.length : Int) := by omega
    clear h1
    go_enter Try.func12, Try.ntmps12
    go_wp2_with fail
    refine (sopen_nil _).mono ?_
    rintro e w1 ⟨rfl, hb⟩
    have B1 := Hd.mk hb
    clear hb
    go_wp2_with fail
    refine (stext_nil _).mono ?_
    rintro e w' ⟨rfl, rfl⟩
    go_wp2_with fail
    refine (sprep_nil _ l).mono ?_
    rintro e w' ⟨rfl, rfl⟩
    have hz : (w1.alloc (.cells #[.int .i64 0, .string ⟨#[]⟩, .string ⟨#[]⟩, .pointer none, .bool false, .pointer none] 93 (0, 0))).cell? ⟨w1.heap.size, 3, none⟩ = some (.pointer none) := blk_cell (blk_new _ _ _ _ _ rfl) 3
    have HZ := Hd.mk (sprep_zero _ _ hz l)
    have hB : Below w.heap.size w (w1.alloc (.cells #[.int .i64 0, .string ⟨#[]⟩, .string ⟨#[]⟩, .pointer none, .bool false, .pointer none] 93 (0, 0))) := B1.out.alloc B1.out.size _
    have B2 := Hd.mk hB
    clear hB hz
    go_wp2_with fail
    refine HZ.out.mono ?_
    rintro e w' ⟨rfl, rfl⟩
    clear HZ
    go_wp2_with fail
    refine (scommit_nil _).mono ?_
    rintro e w3 ⟨rfl, hb⟩
    have B3 : Hd (Below w.heap.size w w3) := ⟨B2.out.trans (hb.mono B2.out.size)⟩
    clear hb B2 B1
    go_wp2_with fail
    refine (sdrop_nil _).mono ?_
    rintro e w4 ⟨rfl, hb⟩
    have B4 : Hd (Below w.heap.size w w4) := ⟨B3.out.trans (hb.mono B3.out.size)⟩
    clear hb B3
    go_wp2_with fail
    refine (swaits_nil _).mono ?_
    rintro e w' ⟨rfl, rfl⟩
    go_wp2_with fail
    refine (sodd_nil _).mono ?_
    rintro e w' ⟨rfl, rfl⟩
    go_wp2_with fail
    refine (scopy_nil _ _).mono ?_
    rintro e w' ⟨rfl, rfl⟩
    go_wp2_with fail
    refine (known7_c _).mono ?_
    rintro e w5 ⟨rfl, hb⟩
    have B5 : Hd (Below w.heap.size w w5) := ⟨B4.out.trans (hb.mono B4.out.size)⟩
    clear hb B4
    go_wp2_with fail
    go_ret
    exact ⟨rfl, B5.out⟩
end Go.Proofs.Ytkdakmddlkgjkaa
