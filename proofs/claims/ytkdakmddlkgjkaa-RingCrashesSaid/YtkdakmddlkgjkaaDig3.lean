import Derived.Test.YtkdakmddlkgjkaaDig2
open Go.RowKit
namespace Go.Proofs.Ytkdakmddlkgjkaa
set_option maxRecDepth 100000
open Sha
def s8v (v : S8) : Array Value := #[u32v v.a, u32v v.b, u32v v.c, u32v v.d, u32v v.e, u32v v.f, u32v v.g, u32v v.h]
def Z8 : Array Value := s8v ⟨0, 0, 0, 0, 0, 0, 0, 0⟩
theorem first_c (w : World) : Calls Try.prog 93 #[] w fun e w' => e = .returned (.agg (s8v V0)) ∧ Below w.heap.size w w' := by
  go_enter Try.func93, Try.ntmps93
  go_wp2_with (first | (refine wpList_build rfl 145 _ rfl (by kernel_rfl) ?_) | (refine wpList_store_row rfl 145 _ _ rfl w.heap.size (s8v V0) rfl (by kernel_rfl) 145 Z8 (blk_new w _ _ _ _ rfl) (by kernel_rfl) (by kernel_rfl) (by kernel_rfl) ?_))
  refine bodyPost_ret (results_cell_row rfl _ _ w.heap.size 145 (s8v V0) (0, 0) _ rfl (setRow_heap (w.alloc (.cells Z8 145)) w.heap.size Z8 _ 145 (0, 0) (blk_new w _ _ _ _ rfl)) Try.underlying145 rfl (by kernel_rfl)) rfl ?_
  exact ⟨rfl, setRow_below ((Below.refl _ _).alloc (Nat.le_refl _) _) (Nat.le_refl _) _⟩
set_option maxRecDepth 100000 in
theorem constants_c (w : World) : Calls Try.prog 100 #[] w fun e w' => e = .returned (.agg (K.map u32v).toArray) ∧ Below w.heap.size w w' := by
  go_enter Try.func100, Try.ntmps100
  go_wp2_with (first | (refine wpList_build rfl 152 _ rfl (by kernel_rfl) ?_) | (refine wpList_store_row rfl 152 _ _ rfl w.heap.size (K.map u32v).toArray rfl (by kernel_rfl) 152 ZB (blk_new w _ _ _ _ rfl) (by kernel_rfl) (by kernel_rfl) (by kernel_rfl) ?_))
  refine bodyPost_ret (results_cell_row rfl _ _ w.heap.size 152 (K.map u32v).toArray (0, 0) _ rfl (setRow_heap (w.alloc (.cells ZB 152)) w.heap.size ZB _ 152 (0, 0) (blk_new w _ _ _ _ rfl)) Try.underlying152 rfl (by kernel_rfl)) rfl ?_
  exact ⟨rfl, setRow_below ((Below.refl _ _).alloc (Nat.le_refl _) _) (Nat.le_refl _) _⟩
end Go.Proofs.Ytkdakmddlkgjkaa
