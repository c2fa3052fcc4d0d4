import Derived.Test.YtdlgbokmfooeoaaRefD
open Go.RowKit Go.Lib
namespace Go.Proofs.Ytdlgbokmfooeoaa
set_option maxRecDepth 100000
open Sha
set_option maxHeartbeats 1000000 in
theorem rmixed_c (c : UInt8) (l : List UInt8) (w : World) (hs : l.length ≤ 1407374883552) :
    Calls Try.prog 20 #[.string ⟨l.toArray⟩, .int .u8 (bn c)] w fun e w' => e = .returned (.string ⟨(l.map (· ^^^ c)).toArray⟩) ∧ Below w.heap.size w w' := by
  have hl2 : l.length < 2305843009213693952 := by omega
  go_enter Try.func20, Try.ntmps20
  go_wp2
  go_loopw [5, 6] (fun v i wr => ∃ j : Nat, i = .int .i64 j ∧ j ≤ l.length ∧ OwnB wr w.heap.size v ((l.take j).map (· ^^^ c)) ∧ Below w.heap.size w wr) (fun _ i _ => l.length - (intOf i).toNat)
  case atStart => exact ⟨0, rfl, by omega, OwnB.nil _ _, Below.refl _ _⟩
  case round =>
    obtain ⟨j, rfl, hj, hown, hb⟩ := hrel
    have hz := hb.size
    have HO := Hd.mk hown
    have HB := Hd.mk hb
    clear hown hb
    by_cases hlt : j < l.length
    · obtain ⟨x, hx⟩ : ∃ x, x = l.getD j 0 := ⟨_, rfl⟩
      have i1 := ix_str l j hlt x hx
      have A1 := b_xor
      have HX := Hd.mk hx
      have HL : Hd (((l.take j).map (· ^^^ c)).length ≤ 1407374883552) := ⟨by rw [List.length_map, List.length_take]; omega⟩
      clear hx
      go_wp2_with ((with_reducible refine wpList_plain rfl fun K hK => W_appB (.tmp 13) (.tmp 19) wr.heap.size 1 [x ^^^ c] (0, 0) [] (HO.out.alloc _) ?hp fun v' w' h2 h3 h4 => hK _ _ ?_); (case hp => exact ⟨rfl, rfl, by rw [List.append_nil]; exact blk_new _ _ _ _ _ rfl, by have := HL.out; simp only [List.length_cons, List.length_nil]; omega, by rw [sz_alloc]; omega⟩); have H2 := Hd.mk h2; have H3 := Hd.mk h3; clear h2 h3 h4)
      go_roundw
      case rel =>
        refine ⟨j + 1, by go_num, hlt, ?_, Below.app (HB.out.alloc (by omega) _) H3.out (HO.out.alloc _) (by rw [sz_alloc]; omega) (Nat.le_refl _)⟩
        have := H2.out
        rw [HX.out, List.getD_eq_getElem?_getD, List.getElem?_eq_getElem hlt, Option.getD_some] at this
        rw [List.take_succ_eq_append_getElem hlt, List.map_append]
        exact this
      case measure => simp [intOf]; omega
    · have hv := HO.out
      rw [List.take_of_length_le (by omega)] at hv
      have hst := run_strof 35 hv Try.underlying35 9 Try.underlying9
      clear hv
      go_wp2
      go_ret
      exact ⟨rfl, HB.out⟩
end Go.Proofs.Ytdlgbokmfooeoaa
