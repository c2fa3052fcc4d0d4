import Derived.Test.YtkdakmddlkgjkaaDig3
open Go.RowKit
namespace Go.Proofs.Ytkdakmddlkgjkaa
set_option maxRecDepth 100000
open Sha
def wa (l : List UInt8) : Array Value := ((sched l 64).map u32v).toArray
def ka : Array Value := (K.map u32v).toArray
theorem wa_get (l : List UInt8) (i : Nat) (hi : i < 64) : (wa l)[i]? = some (.int .u32 (un ((sched l 64).getD i 0))) := by
  have := arr_get l 64 i hi
  rw [arr_64] at this; exact this
theorem ka_get (i : Nat) (hi : i < 64) : ka[i]? = some (.int .u32 (un (K.getD i 0))) := by
  have hk : K.length = 64 := rfl
  simp only [ka, List.getElem?_toArray, List.getElem?_map]
  rw [List.getD_eq_getElem?_getD, List.getElem?_eq_getElem (by omega)]; rfl
theorem wa_size (l : List UInt8) : (wa l).size = 64 := by rw [wa, ← arr_64, arr_size _ _ (by omega)]
theorem wa_one (l : List UInt8) : (wa l).all (·.oneCell') = true := by rw [wa, ← arr_64]; exact arr_one l 64
theorem rounds_succ (w : List UInt32) (v : S8) (n : Nat) : rounds w v (n + 1) = Sha.step (rounds w v n) (K.getD n 0) (w.getD n 0) := rfl
theorem step_eq (a b c d e f g h x1 x2 : UInt32) : Sha.step ⟨a, b, c, d, e, f, g, h⟩ x1 x2 = ⟨(h + (ror e 6 ^^^ ror e 11 ^^^ ror e 25) + (g ^^^ e &&& (f ^^^ g)) + x1 + x2) + ((ror a 2 ^^^ ror a 13 ^^^ ror a 22) + (a &&& b ||| c &&& (a ||| b))), a, b, c, d + (h + (ror e 6 ^^^ ror e 11 ^^^ ror e 25) + (g ^^^ e &&& (f ^^^ g)) + x1 + x2), e, f, g⟩ := by
  simp only [Sha.step, ch_prog, maj_prog]; rfl
set_option maxRecDepth 100000 in
set_option maxHeartbeats 1000000 in
theorem mix_c (v : S8) (s : ByteArray) (w : World) (hs : s.size = 64) : Calls Try.prog 95 #[.agg (s8v v), .string s] w fun e w' => e = .returned (.agg (s8v (mix v s.data.toList))) ∧ Below w.heap.size w w' := by
  have HS := Hd.mk hs
  clear hs
  obtain ⟨v0, v1, v2, v3, v4, v5, v6, v7⟩ := v
  generalize hsl : s.data.toList = l
  have HL := Hd.mk hsl
  clear hsl
  go_enter Try.func95, Try.ntmps95
  go_wp2_with fail
  refine (constants_c _).mono ?_
  rintro e w2 ⟨rfl, hb2⟩
  have q1 : w2.heap[w.heap.size]? = some (.cells (s8v ⟨v0, v1, v2, v3, v4, v5, v6, v7⟩) 145 (0, 0)) := blk_below (blk_alloc (blk_new w _ _ _ _ rfl) _) hb2 (by rw [sz_alloc, sz_alloc]; omega)
  have q2 : w2.heap[w.heap.size + 1]? = some (.cells Z8 145 (0, 0)) := blk_below (blk_new _ _ _ _ _ (sz_alloc _ _)) hb2 (by rw [sz_alloc, sz_alloc]; omega)
  have q3 : Below w.heap.size w w2 := (((Below.refl _ _).alloc (Nat.le_refl _) _).alloc (by rw [sz_alloc]; omega) _).trans (hb2.mono (by rw [sz_alloc, sz_alloc]; omega))
  have z2 : w.heap.size + 2 ≤ w2.heap.size := by have := hb2.size; rw [sz_alloc, sz_alloc] at this; omega
  clear hb2
  go_wp2_with fail
  refine (spread_c _ _ HS.out).mono ?_
  rintro e w3 ⟨rfl, hb3⟩
  rw [HL.out]
  replace q1 := blk_below q1 hb3 (by omega)
  replace q2 := blk_below q2 hb3 (by omega)
  replace q3 := q3.trans (hb3.mono (by omega))
  have z3 : w.heap.size + 2 ≤ w3.heap.size := by have := hb3.size; omega
  clear hb3 z2
  have Q1 := Hd.mk q1
  have Q2 := Hd.mk q2
  have Q3 := Hd.mk q3
  clear q1 q2 q3
  have s1 : (Try.prog.info? 152).map (·.size) = some (wa l).size := by rw [wa_size]; kernel_rfl
  have s2 : ZB.size = (wa l).size := by rw [wa_size]; rfl
  have S1 := Hd.mk s1
  have S2 := Hd.mk s2
  clear s1 s2
  have S3 := Hd.mk (wa_one l)
  go_wp2_with (first
    | (refine wpList_store_row rfl 152 (.tmp 5) (.tmp 20) rfl w3.heap.size ka rfl rfl 152 ZB (blk_alloc (blk_new w3 _ _ _ _ rfl) _) (by kernel_rfl) (by kernel_rfl) (by kernel_rfl) ?_)
    | (refine wpList_store_row rfl 152 (.tmp 6) (.tmp 22) rfl (w3.heap.size + 1) (wa l) rfl rfl 152 ZB (blk_row_ne (blk_new (w3.alloc (.cells ZB 152)) ZB _ _ (w3.heap.size + 1) (sz_alloc _ _)) w3.heap.size ka (by omega)) S1.out S2.out S3.out ?_))
  dsimp only [Act.put]
  refine wp_world (fun w4 => w4.heap[w.heap.size]? = some (.cells (s8v ⟨v0, v1, v2, v3, v4, v5, v6, v7⟩) 145 (0, 0)) ∧ w4.heap[w.heap.size + 1]? = some (.cells Z8 145 (0, 0)) ∧
      w4.heap[w3.heap.size]? = some (.cells ka 152 (0, 0)) ∧ w4.heap[w3.heap.size + 1]? = some (.cells (wa l) 152 (0, 0)) ∧ Below w.heap.size w w4) ?_ ?_
  · refine ⟨blk_row_ne (blk_row_ne (blk_alloc (blk_alloc Q1.out _) _) _ _ (by omega)) _ _ (by omega), blk_row_ne (blk_row_ne (blk_alloc (blk_alloc Q2.out _) _) _ _ (by omega)) _ _ (by omega), ?_, ?_, ?_⟩
    · exact blk_row_ne (setRow_heap _ _ ZB _ _ _ (blk_alloc (blk_new w3 _ _ _ _ rfl) _)) _ _ (by omega)
    · exact setRow_heap _ _ ZB _ _ _ (blk_row_ne (blk_new (w3.alloc (.cells ZB 152)) ZB _ _ (w3.heap.size + 1) (sz_alloc _ _)) w3.heap.size ka (by omega))
    · exact setRow_below (setRow_below ((Q3.out.alloc (by omega) _).alloc (by rw [sz_alloc]; omega) _) (by omega) _) (by omega) _
  rintro w4 ⟨h1, h2, h3, h4, h5⟩
  have c0 := blk_cell h1 0
  have c1 := blk_cell h1 1
  have c2 := blk_cell h1 2
  have c3 := blk_cell h1 3
  have c4 := blk_cell h1 4
  have c5 := blk_cell h1 5
  have c6 := blk_cell h1 6
  have c7 := blk_cell h1 7
  simp only [s8v, u32v, List.getElem?_toArray, List.getElem?_cons_zero, List.getElem?_cons_succ] at c0 c1 c2 c3 c4 c5 c6 c7
  have H1 := Hd.mk h1
  have H2 := Hd.mk h2
  have H3 := Hd.mk h3
  have H4 := Hd.mk h4
  have H5 := Hd.mk h5
  clear h1 h2 h3 h4 h5 Q1 Q2 Q3
  go_quiet (fail)
  go_wp2_with fail
  go_loopw [7, 8, 9, 10, 11, 12, 13, 14, 39] (fun r7 r8 r9 r10 r11 r12 r13 r14 i wr => ∃ (k : Nat) (a b c d e f g h : UInt32), i = .int .i64 k ∧ k ≤ 64 ∧ r7 = .int .u32 (un a) ∧ r8 = .int .u32 (un b) ∧ r9 = .int .u32 (un c) ∧ r10 = .int .u32 (un d) ∧
      r11 = .int .u32 (un e) ∧ r12 = .int .u32 (un f) ∧ r13 = .int .u32 (un g) ∧ r14 = .int .u32 (un h) ∧ (∃ n, wr = w4.drewN n) ∧ Hd (⟨a, b, c, d, e, f, g, h⟩ = rounds (sched l 64) ⟨v0, v1, v2, v3, v4, v5, v6, v7⟩ k))
    (fun _ _ _ _ _ _ _ _ i _ => 64 - (intOf i).toNat)
  case atStart => exact ⟨0, v0, v1, v2, v3, v4, v5, v6, v7, rfl, by omega, rfl, rfl, rfl, rfl, rfl, rfl, rfl, rfl, ⟨_, rfl⟩, Hd.mk rfl⟩
  case round =>
    obtain ⟨k, a, b, c, d, e, f, g, h, rfl, hk, rfl, rfl, rfl, rfl, rfl, rfl, rfl, rfl, ⟨n, rfl⟩, HR⟩ := hrel
    have A1 := u_xor
    have A2 := u_add
    have A3 := u_and
    have A4 := u_or
    by_cases hlt : k < 64
    · obtain ⟨x1, e1⟩ : ∃ x, x = K.getD k 0 := ⟨_, rfl⟩
      obtain ⟨x2, e2⟩ : ∃ x, x = (sched l 64).getD k 0 := ⟨_, rfl⟩
      have d1 : w4.cell? ⟨w3.heap.size, k, none⟩ = some (.int .u32 (un x1)) := by rw [blk_cell H3.out, ka_get _ hlt, e1]
      have d2 : w4.cell? ⟨w3.heap.size + 1, k, none⟩ = some (.int .u32 (un x2)) := by rw [blk_cell H4.out, wa_get _ _ hlt, e2]
      have E1 := Hd.mk e1
      have E2 := Hd.mk e2
      clear e1 e2
      have hkk : (k : Int) < 64 := by omega
      go_wp2
      go_quiet ((go_at_call 102; exact right_q2 _ _ _ _ _ (by omega) (by omega)))
      go_wp2_with (go_at_call 102; refine (right_i _ _ _ (by omega) (by omega)).mono ?_; rintro e w' ⟨rfl, rfl⟩)
      go_roundw
      case rel =>
        refine ⟨k + 1, (h + (ror e 6 ^^^ ror e 11 ^^^ ror e 25) + (g ^^^ e &&& (f ^^^ g)) + x1 + x2) + ((ror a 2 ^^^ ror a 13 ^^^ ror a 22) + (a &&& b ||| c &&& (a ||| b))), a, b, c, d + (h + (ror e 6 ^^^ ror e 11 ^^^ ror e 25) + (g ^^^ e &&& (f ^^^ g)) + x1 + x2), e, f, g, by go_num, hlt, congrArg (Value.int IntKind.u32) (u_add _ _), rfl, rfl, rfl, congrArg (Value.int IntKind.u32) (u_add _ _), rfl, rfl, rfl, ⟨_, rfl⟩, Hd.mk ?_⟩
        rw [rounds_succ, ← HR.out, ← E1.out, ← E2.out, step_eq]
      case measure => simp [intOf]; omega
    · have B2 := Hd.mk (blk_drewN H2.out n)
      go_wp2_with (first
        | ((with_reducible refine L_build 145 _ (s8v ⟨v0 + a, v1 + b, v2 + c, v3 + d, v4 + e, v5 + f, v6 + g, v7 + h⟩) ?cb ?_); (case cb => kernel_rfl))
        | ((with_reducible refine L_store_row 145 (.tmp 4) (.tmp 133) (w.heap.size + 1) (s8v ⟨v0 + a, v1 + b, v2 + c, v3 + d, v4 + e, v5 + f, v6 + g, v7 + h⟩) 145 Z8 ?cs ?_); (case cs => exact ⟨rfl, rfl, B2.out, by kernel_rfl, by kernel_rfl, by kernel_rfl⟩)))
      have hk64 : k = 64 := by omega
      have hm : mix ⟨v0, v1, v2, v3, v4, v5, v6, v7⟩ l = ⟨v0 + a, v1 + b, v2 + c, v3 + d, v4 + e, v5 + f, v6 + g, v7 + h⟩ := by
        have hR := HR.out
        rw [hk64] at hR
        unfold mix; rw [← hR]; rfl
      refine bodyPost_ret (results_cell_row rfl _ _ (w.heap.size + 1) 145 (s8v ⟨v0 + a, v1 + b, v2 + c, v3 + d, v4 + e, v5 + f, v6 + g, v7 + h⟩) (0, 0) _ rfl (setRow_heap _ _ Z8 _ _ _ B2.out) Try.underlying145 rfl (by kernel_rfl)) rfl ?_
      exact ⟨by rw [hm], setRow_below (Below.drewN H5.out _) (by omega) _⟩
end Go.Proofs.Ytkdakmddlkgjkaa
