import Derived.Test.YtkdakmddlkgjkaaDk
open Go.RowKit Go.Lib
namespace Go.Proofs.Ytkdakmddlkgjkaa
set_option maxRecDepth 100000
theorem read_nil (w : World) (i : Int) :
    Calls Try.prog 50 #[.pointer none, .int .i64 i] w fun e w' => e = .returned (.tuple #[.string ⟨#[]⟩, .int .i64 16]) ∧ w = w' := by
  go_enter Try.func50, Try.ntmps50
  go_wp2_with fail
  refine (wrong_nil w i).mono ?_
  rintro e w' ⟨rfl, rfl⟩
  go_wp2
  go_ret2
  exact ⟨rfl, rfl⟩
theorem read_off {w : World} {b : Nat} {D : Ds} {F : Nat → Prop} (h : IsDisk w b D F) (ho : D.off = true) (i : Int) :
    Calls Try.prog 50 #[.pointer (some ⟨b, 0, none⟩), .int .i64 i] w fun e w' => e = .returned (.tuple #[.string ⟨#[]⟩, .int .i64 7]) ∧ w = w' := by
  have hr : wr D i = 7 := by unfold wr; rw [if_pos ho]
  have HR := Hd.mk hr
  clear hr ho
  go_enter Try.func50, Try.ntmps50
  go_wp2_with fail
  refine (wrong_c h i).mono ?_
  rintro e w' ⟨rfl, rfl⟩
  rw [HR.out]
  go_wp2
  go_ret2
  exact ⟨rfl, rfl⟩
theorem OwnW.form {w : World} {base : Nat} {v : Value} {l : List (Nat × List UInt8)} (h : OwnW w base v l) : ∃ a c, v = .slice a l.length c := by
  obtain ⟨a, c, h1, _⟩ := Own.form h; exact ⟨a, c, h1⟩
theorem OwnW.at {w : World} {base : Nat} {v : Value} {l : List (Nat × List UInt8)} (h : OwnW w base v l) (k : Nat) (hk : k < l.length) :
    ∃ g c, v = .slice (some ⟨g, 0, none⟩) l.length c ∧ w.cell? ⟨g, k * 2, none⟩ = some (.int .i64 (l[k].1 : Int)) ∧ w.cell? ⟨g, k * 2 + 1, none⟩ = some (.string ⟨l[k].2.toArray⟩) := by
  obtain ⟨a, c, rfl, h1, h2⟩ := Own.form h
  cases a with
  | none => obtain ⟨h3, _⟩ := h1 rfl; omega
  | some x =>
    obtain ⟨g, rfl, _⟩ := h2 x rfl
    obtain ⟨q1, q2⟩ := wcells_at l k hk
    exact ⟨g, c, rfl, by rw [Own.cell h _ (by omega)]; exact q1, by rw [Own.cell h _ (by omega)]; exact q2⟩
theorem OwnS.at {w : World} {base : Nat} {v : Value} {l : List (List UInt8)} (h : OwnS w base v l) (k : Nat) (hk : k < l.length) :
    ∃ g c, v = .slice (some ⟨g, 0, none⟩) l.length c ∧ w.cell? ⟨g, k, none⟩ = some (.string ⟨l[k].toArray⟩) := by
  obtain ⟨a, c, rfl, h1, h2⟩ := Own.form h
  cases a with
  | none => obtain ⟨h3, _⟩ := h1 rfl; omega
  | some x =>
    obtain ⟨g, rfl, _⟩ := h2 x rfl
    refine ⟨g, c, rfl, ?_⟩
    rw [Own.cell h _ (by omega), List.getElem?_map, List.getElem?_eq_getElem hk]; rfl
set_option maxHeartbeats 400000 in
theorem read_c {w : World} {b : Nat} {D : Ds} {F : Nat → Prop} (h : IsDisk w b D F) (ho : D.off = false) (i : Nat) (hi : i < D.L.length) :
    Calls Try.prog 50 #[.pointer (some ⟨b, 0, none⟩), .int .i64 (i : Int)] w fun e w' => e = .returned (.tuple #[.string ⟨(D.get i).toArray⟩, .int .i64 0]) ∧ w = w' := by
  have hr : wr D (i : Int) = 0 := by unfold wr; rw [if_neg (by rw [ho]; decide), if_pos ⟨by omega, by omega⟩]
  have HW := wrong_c h (i : Int)
  have hok := h.ok
  obtain ⟨lv, wv, m, h⟩ := h
  rw [hr] at HW
  have hi62 : i < 4611686018427387904 := by have := hok.hi; omega
  have c2 : w.cell? ⟨b, 2, none⟩ = some (.map (some m)) := blk_cell h.blk 2
  cases hf : nwf D.W i with
  | none =>
    have hl := h.mp.look i hi62
    rw [hf] at hl
    simp only [Option.getD_none, Option.isSome_none] at hl
    obtain ⟨g, c, hv, hc⟩ := h.ls.at i hi
    subst hv
    have c0 : w.cell? ⟨b, 0, none⟩ = some (.slice (some ⟨g, 0, none⟩) D.L.length c) := blk_cell h.blk 0
    have e : D.get i = D.L[i] := by
      unfold Ds.get
      rw [(nwf_none hf).2, List.getD_eq_getElem?_getD, List.getElem?_eq_getElem hi]; rfl
    rw [e]
    obtain ⟨s, hs⟩ : ∃ s, D.L[i] = s := ⟨_, rfl⟩
    rw [hs] at hc ⊢
    obtain ⟨n, hn⟩ : ∃ n, D.L.length = n := ⟨_, rfl⟩
    rw [hn] at c0 hi
    clear h ho hok hf hs hn e hr
    go_enter Try.func50, Try.ntmps50
    go_wp2_with fail
    refine HW.mono ?_
    rintro e w' ⟨rfl, rfl⟩
    clear HW
    go_wp2
    go_ret2
    exact ⟨rfl, rfl⟩
  | some k =>
    have hl := h.mp.look i hi62
    rw [hf] at hl
    simp only [Option.getD_some, Option.isSome_some] at hl
    obtain ⟨hk, hk1, hk2⟩ := nwf_some hf
    obtain ⟨g, c, hv, _, hc⟩ := h.ws.at k hk
    subst hv
    have c1 : w.cell? ⟨b, 1, none⟩ = some (.slice (some ⟨g, 0, none⟩) D.W.length c) := blk_cell h.blk 1
    have e : D.get i = D.W[k].2 := by unfold Ds.get; exact hk2 _
    rw [e]
    obtain ⟨s, hs⟩ : ∃ s, D.W[k].2 = s := ⟨_, rfl⟩
    rw [hs] at hc ⊢
    obtain ⟨n, hn⟩ : ∃ n, D.W.length = n := ⟨_, rfl⟩
    rw [hn] at c1 hk
    clear h ho hok hf hs hn e hr hk1 hk2
    go_enter Try.func50, Try.ntmps50
    go_wp2_with fail
    refine HW.mono ?_
    rintro e w' ⟨rfl, rfl⟩
    clear HW
    go_wp2
    go_ret2
    exact ⟨rfl, rfl⟩
end Go.Proofs.Ytkdakmddlkgjkaa
