import Derived.Test.YtkdakmddlkgjkaaPr
import Derived.Test.YtkdakmddlkgjkaaCy
import Derived.Test.YtkdakmddlkgjkaaDp
open Go.RowKit Go.Lib
namespace Go.Proofs.Ytkdakmddlkgjkaa
set_option maxRecDepth 100000
open Sha
/-! A disk, and a store over it, both made since w0: what the methods do to them. -/
structure DK (w0 w : World) (b : Nat) (D : Ds) : Prop where
  ex : ∃ F, IsDisk w b D F ∧ (∀ i, F i → w0.heap.size ≤ i) ∧ Below w0.heap.size w0 w
/-- blocks that are told besides -/
structure Xs (w : World) (F : Nat → Prop) (p : Nat) (X : List (Nat × Array Value × TypeId)) : Prop where
  at_ : ∀ e ∈ X, w.heap[e.1]? = some (.cells e.2.1 e.2.2 (0, 0)) ∧ ¬ F e.1 ∧ e.1 ≠ p
theorem Xs.ext {w w' : World} {F : Nat → Prop} {p : Nat} {X : List (Nat × Array Value × TypeId)} (h : Xs w F p X) (hb : Below w.heap.size w w') : Xs w' F p X :=
  ⟨fun e he => ⟨blk_below (h.at_ e he).1 hb (blk_lt (h.at_ e he).1), (h.at_ e he).2⟩⟩
theorem Xs.upd {w w' : World} {F F' : Nat → Prop} {p : Nat} {X : List (Nat × Array Value × TypeId)} (h : Xs w F p X) (hu : Upd (fun i => F i ∨ i = p) w w') (hf : ∀ i, F' i → F i ∨ w.heap.size ≤ i) : Xs w' F' p X := by
  refine ⟨fun e he => ?_⟩
  obtain ⟨h1, h2, h3⟩ := h.at_ e he
  have hlt := blk_lt h1
  exact ⟨(hu.block e.1 hlt fun hc => hc.elim h2 h3).trans h1, fun hc => (hf _ hc).elim h2 (fun h => by omega), h3⟩
structure SX (w0 w : World) (b p : Nat) (D : Ds) (k : Kp) (odd : Bool) (wt : Option Kp) (X : List (Nat × Array Value × TypeId)) : Prop where
  ex : ∃ F q, IsDisk w b D F ∧ StAt w p b k odd (wt.map fun k' => (q, k')) ∧ ¬ F p ∧ (wt ≠ none → ¬ F q) ∧ (∀ i, F i → w0.heap.size ≤ i) ∧ w0.heap.size ≤ p ∧ Below w0.heap.size w0 w ∧ Xs w F p X
abbrev SD (w0 w : World) (b p : Nat) (D : Ds) (k : Kp) (odd : Bool) (wt : Option Kp) : Prop := SX w0 w b p D k odd wt []
def txt (k : Kp) : List UInt8 := if k.sl = 2 then [] else k.tx
def has (k : Kp) : Bool := if k.sl = 2 then false else true
section
variable {w0 w w' : World} {b p : Nat} {D : Ds} {k : Kp} {odd : Bool} {wt : Option Kp} {X : List (Nat × Array Value × TypeId)}
theorem SX.dk (h : SX w0 w b p D k odd wt X) : DK w0 w b D := by
  obtain ⟨F, q, h1, _, _, _, h5, _, h7, _⟩ := h.ex
  exact ⟨F, h1, h5, h7⟩
theorem SX.bel (h : SX w0 w b p D k odd wt X) : Below w0.heap.size w0 w := by
  obtain ⟨F, q, _, _, _, _, _, _, h7, _⟩ := h.ex
  exact h7
theorem DK.bel (h : DK w0 w b D) : Below w0.heap.size w0 w := by
  obtain ⟨F, _, _, h7⟩ := h.ex
  exact h7
theorem DK.ok (h : DK w0 w b D) : D.ok := by
  obtain ⟨F, h1, _, _⟩ := h.ex
  exact h1.ok
theorem SX.st (h : SX w0 w b p D k odd wt X) : ∃ q, StAt w p b k odd (wt.map fun k' => (q, k')) := by
  obtain ⟨F, q, _, h2, _⟩ := h.ex
  exact ⟨q, h2⟩
theorem SX.ext (h : SX w0 w b p D k odd wt X) (hb : Below w.heap.size w w') : SX w0 w' b p D k odd wt X := by
  obtain ⟨F, q, h1, h2, h3, h4, h5, h6, h7, h8⟩ := h.ex
  exact ⟨F, q, h1.ext hb, h2.below hb, h3, h4, h5, h6, h7.trans (hb.mono h7.size), h8.ext hb⟩
theorem DK.ext (h : DK w0 w b D) (hb : Below w.heap.size w w') : DK w0 w' b D := by
  obtain ⟨F, h1, h5, h7⟩ := h.ex
  exact ⟨F, h1.ext hb, h5, h7.trans (hb.mono h7.size)⟩
theorem SX.alloc (h : SX w0 w b p D k odd wt X) (o : Obj) : SX w0 (w.alloc o) b p D k odd wt X := h.ext ((Below.refl _ _).alloc (Nat.le_refl _) o)
theorem DK.alloc (h : DK w0 w b D) (o : Obj) : DK w0 (w.alloc o) b D := h.ext ((Below.refl _ _).alloc (Nat.le_refl _) o)
/-- a block that was made just now -/
theorem SX.push (h : SX w0 w b p D k odd wt X) (A : Array Value) (t : TypeId) : SX w0 (w.alloc (.cells A t (0, 0))) b p D k odd wt ((w.heap.size, A, t) :: X) := by
  have hb : Below w.heap.size w (w.alloc (.cells A t (0, 0))) := (Below.refl _ _).alloc (Nat.le_refl _) _
  obtain ⟨F, q, h1, h2, h3, h4, h5, h6, h7, h8⟩ := h.ex
  refine ⟨F, q, h1.ext hb, h2.below hb, h3, h4, h5, h6, h7.trans (hb.mono h7.size), ⟨fun e he => ?_⟩⟩
  rcases List.mem_cons.1 he with rfl | he
  · exact ⟨blk_new _ _ _ _ _ rfl, fun hf => by have := h1.lt _ hf; omega, fun hp => by have h1 := blk_lt h2.blk; have h2 : w.heap.size = p := hp; omega⟩
  · exact (h8.ext hb).at_ e he
theorem SX.at0 {e : Nat × Array Value × TypeId} (h : SX w0 w b p D k odd wt (e :: X)) : w.heap[e.1]? = some (.cells e.2.1 e.2.2 (0, 0)) := by
  obtain ⟨F, q, _, _, _, _, _, _, _, h8⟩ := h.ex
  exact (h8.at_ e (List.mem_cons_self ..)).1
theorem SX.pop {e : Nat × Array Value × TypeId} (h : SX w0 w b p D k odd wt (e :: X)) : SX w0 w b p D k odd wt X := by
  obtain ⟨F, q, h1, h2, h3, h4, h5, h6, h7, h8⟩ := h.ex
  exact ⟨F, q, h1, h2, h3, h4, h5, h6, h7, ⟨fun x hx => h8.at_ x (List.mem_cons_of_mem _ hx)⟩⟩
theorem SX.drew (h : SX w0 w b p D k odd wt X) : SX w0 w.drew b p D k odd wt X := h.ext (Below.refl _ _).drew
/-- a store of which it is known that it stands apart from the disk -/
theorem DK.sd (h : DK w0 w b D) (hs : StAt w p b k odd none) (hp : ∀ F, IsDisk w b D F → (∀ i, F i → w0.heap.size ≤ i) → ¬ F p) (h6 : w0.heap.size ≤ p) : SD w0 w b p D k odd none := by
  obtain ⟨F, h1, h5, h7⟩ := h.ex
  exact ⟨F, 0, h1, hs, hp F h1 h5, fun hc => absurd rfl hc, h5, h6, h7, ⟨fun e he => by cases he⟩⟩
theorem up_below {F : Nat → Prop} (h5 : ∀ i, F i → w0.heap.size ≤ i) (h6 : w0.heap.size ≤ p) (h7 : Below w0.heap.size w0 w) (hu : Upd (fun i => F i ∨ i = p) w w') : Below w0.heap.size w0 w' :=
  h7.trans (hu.below h7.size fun i hi => hi.elim (h5 i) (fun e => e ▸ h6))
theorem SX.text (h : SX w0 w b p D k odd wt X) : Calls Try.prog 45 #[.pointer (some ⟨p, 0, none⟩)] w fun e w' => e = .returned (.tuple #[.string ⟨(txt k).toArray⟩, .bool (has k)]) ∧ w = w' := by
  obtain ⟨q, hs⟩ := h.st
  unfold txt has
  by_cases hk : k.sl = 2
  · rw [if_pos hk, if_pos hk]; exact stext_no hs hk
  · rw [if_neg hk, if_neg hk]; exact stext_yes hs hk
theorem SX.waits (h : SX w0 w b p D k odd wt X) : Calls Try.prog 46 #[.pointer (some ⟨p, 0, none⟩)] w fun e w' => e = .returned (.bool wt.isSome) ∧ w = w' := by
  obtain ⟨q, hs⟩ := h.st
  cases wt with
  | none => exact swaits_no hs
  | some k2 => exact swaits_yes (q := (q, k2)) hs
theorem SX.isodd (h : SX w0 w b p D k odd wt X) : Calls Try.prog 48 #[.pointer (some ⟨p, 0, none⟩)] w fun e w' => e = .returned (.bool odd) ∧ w = w' := by
  obtain ⟨q, hs⟩ := h.st
  exact sodd_c hs
theorem SX.prep (h : SX w0 w b p D k odd wt X) (hops : D.ops + 400 < 1000000000) (hgh : D.gh + 400 < 1000000000) (hl : k.tx.length < 1000000) (tx : List UInt8) (htx : tx.length < 1000000) :
    Calls Try.prog 43 #[.pointer (some ⟨p, 0, none⟩), .string ⟨tx.toArray⟩] w fun e w' => e = .returned (.int .i64 ((sprep D k tx).1 : Nat)) ∧ SX w0 w' b p (sprep D k tx).2.1 k odd (sprep D k tx).2.2 X := by
  obtain ⟨F, q, h1, h2, h3, h4, h5, h6, h7, h8⟩ := h.ex
  refine (sprep_c h1 h3 hops hgh hl tx htx h2).mono ?_
  rintro e w' ⟨he, F', d1, ⟨q', d2, d3⟩, d4, d5⟩
  have hlt := blk_lt h2.blk
  refine ⟨he, F', q', d1, d2, fun hc => (d5 p hc).elim h3 (fun h => by omega), d3, fun i hi => (d5 i hi).elim (h5 i) (fun h => Nat.le_trans h7.size h), h6, up_below h5 h6 h7 d4, h8.upd d4 d5⟩
theorem SX.commit_no (h : SX w0 w b p D k odd none X) : Calls Try.prog 44 #[.pointer (some ⟨p, 0, none⟩)] w fun e w' => e = .returned (.int .i64 8) ∧ SX w0 w' b p D k odd none X := by
  obtain ⟨q, hs⟩ := h.st
  exact (scommit_no hs).mono fun _ _ ⟨he, hb⟩ => ⟨he, h.ext hb⟩
theorem SX.drop_no (h : SX w0 w b p D k odd none X) : Calls Try.prog 47 #[.pointer (some ⟨p, 0, none⟩)] w fun e w' => e = .returned (.int .i64 8) ∧ SX w0 w' b p D k odd none X := by
  obtain ⟨q, hs⟩ := h.st
  exact (sdrop_no hs).mono fun _ _ ⟨he, hb⟩ => ⟨he, h.ext hb⟩
/-- what is kept, and whether it is odd, behind Commit -/
theorem SX.commit {k2 : Kp} (h : SX w0 w b p D k odd (some k2) X) (hops : D.ops + 2 < 1000000000) (hgh : D.gh + 1 < 1000000000) (hl : k2.tx.length < 1000000) :
    Calls Try.prog 44 #[.pointer (some ⟨p, 0, none⟩)] w fun e w' => e = .returned (.int .i64 ((app D (k2.ent 2)).1 : Nat)) ∧ SX w0 w' b p (app D (k2.ent 2)).2.2 (if (app D (k2.ent 2)).1 = 0 then k2 else k) (if (app D (k2.ent 2)).1 = 0 then false else odd) none X := by
  obtain ⟨F, q, h1, h2, h3, h4, h5, h6, h7, h8⟩ := h.ex
  refine (scommit_yes h1 h3 hops hgh hl h2).mono ?_
  rintro e w' ⟨he, F', d1, d2, d4, d5⟩
  have hlt := blk_lt h2.blk
  refine ⟨he, F', 0, d1, ?_, fun hc => (d5 p hc).elim h3 (fun h => by omega), fun hc => absurd rfl hc, fun i hi => (d5 i hi).elim (h5 i) (fun h => Nat.le_trans h7.size h), h6, up_below h5 h6 h7 d4, h8.upd d4 d5⟩
  by_cases hc : (app D (k2.ent 2)).1 = 0
  · rw [if_pos hc] at d2; rw [if_pos hc, if_pos hc]; exact d2
  · rw [if_neg hc] at d2; rw [if_neg hc, if_neg hc]; exact d2
theorem SX.drop {k2 : Kp} (h : SX w0 w b p D k odd (some k2) X) (hops : D.ops + 2 < 1000000000) (hgh : D.gh + 1 < 1000000000) (hl : k.tx.length < 1000000) :
    Calls Try.prog 47 #[.pointer (some ⟨p, 0, none⟩)] w fun e w' => e = .returned (.int .i64 ((app D (k.ent 3)).1 : Nat)) ∧ SX w0 w' b p (app D (k.ent 3)).2.2 k odd none X := by
  obtain ⟨F, q, h1, h2, h3, h4, h5, h6, h7, h8⟩ := h.ex
  refine (sdrop_yes h1 h3 hops hgh hl h2).mono ?_
  rintro e w' ⟨he, F', d1, d2, d4, d5⟩
  have hlt := blk_lt h2.blk
  exact ⟨he, F', 0, d1, d2, fun hc => (d5 p hc).elim h3 (fun h => by omega), fun hc => absurd rfl hc, fun i hi => (d5 i hi).elim (h5 i) (fun h => Nat.le_trans h7.size h), h6, up_below h5 h6 h7 d4, h8.upd d4 d5⟩
/-- what a call that turns the disk alone leaves -/
theorem SX.turn {D2 : Ds} {F : Nat → Prop} {q : Nat} (hs : StAt w p b k odd (wt.map fun k' => (q, k'))) (h3 : ¬ F p) (h4 : wt ≠ none → ¬ F q) (h5 : ∀ i, F i → w0.heap.size ≤ i) (h6 : w0.heap.size ≤ p) (h7 : Below w0.heap.size w0 w) (h8 : Xs w F p X) (hd : IsDisk w' b D2 F) (hu : Upd F w w') : SX w0 w' b p D2 k odd wt X := by
  refine ⟨F, q, hd, hs.keep (hu.block p (blk_lt hs.blk) h3) (fun q' k' e => ?_), h3, h4, h5, h6, h7.trans (hu.below h7.size h5), h8.upd (hu.mono fun _ _ h => .inl h) (fun _ h => .inl h)⟩
  cases wt with
  | none => cases e
  | some k2 => cases e; exact hu.block q (blk_lt (hs.wq _ _ rfl).1) (h4 (by simp))
theorem SX.fail (h : SX w0 w b p D k odd wt X) (mask : Nat) : Calls Try.prog 34 #[.pointer (some ⟨b, 0, none⟩), .int .u64 (mask : Int)] w fun e w' => e = .returned (.tuple #[]) ∧ SX w0 w' b p (D.fail mask) k odd wt X := by
  obtain ⟨F, q, h1, h2, h3, h4, h5, h6, h7, h8⟩ := h.ex
  exact (fail_c h1 mask).mono fun _ _ ⟨he, hd, hu⟩ => ⟨he, SX.turn h2 h3 h4 h5 h6 h7 h8 hd hu⟩
theorem SX.start (h : SX w0 w b p D k odd wt X) : Calls Try.prog 36 #[.pointer (some ⟨b, 0, none⟩)] w fun e w' => e = .returned (.tuple #[]) ∧ SX w0 w' b p D.start k odd wt X := by
  obtain ⟨F, q, h1, h2, h3, h4, h5, h6, h7, h8⟩ := h.ex
  exact (start_c h1).mono fun _ _ ⟨he, hd, hu⟩ => ⟨he, SX.turn h2 h3 h4 h5 h6 h7 h8 hd hu⟩
theorem SX.plan (h : SX w0 w b p D k odd wt X) (n mask : Nat) (hn : n < 9223372036854775808) (hm : mask < 18446744073709551616) : Calls Try.prog 32 #[.pointer (some ⟨b, 0, none⟩), .int .i64 (n : Int), .int .u64 (mask : Int)] w fun e w' => e = .returned (.int .i64 0) ∧ SX w0 w' b p (D.plan n mask) k odd wt X := by
  obtain ⟨F, q, h1, h2, h3, h4, h5, h6, h7, h8⟩ := h.ex
  exact (plan_c h1 n mask hn hm).mono fun _ _ ⟨he, hd, hu⟩ => ⟨he, SX.turn h2 h3 h4 h5 h6 h7 h8 hd hu⟩
/-- Open, where a store comes of it. -/
theorem DK.opens (h : DK w0 w b D) (ho : sopen D = (some (k, odd), 0)) : Calls Try.prog 41 #[.pointer (some ⟨b, 0, none⟩)] w fun e w' => ∃ p, e = .returned (.tuple #[.pointer (some ⟨p, 0, none⟩), .int .i64 0]) ∧ SD w0 w' b p D k odd none ∧ Below w.heap.size w w' ∧ w.heap.size ≤ p ∧ StAt w' p b k odd none := by
  obtain ⟨F, h1, h5, h7⟩ := h.ex
  have hfin : ∀ w' p, Below w.heap.size w w' → w.heap.size ≤ p → StAt w' p b k odd none → SD w0 w' b p D k odd none := fun w' p hb hp hs =>
    ⟨F, 0, h1.ext hb, hs, fun hc => by have := h1.lt p hc; omega, fun hc => absurd rfl hc, h5, Nat.le_trans h7.size hp, h7.trans (hb.mono h7.size), ⟨fun e he => by cases he⟩⟩
  unfold sopen at ho
  by_cases hoff : D.off = true
  · rw [if_pos hoff] at ho; cases ho
  rw [if_neg hoff] at ho
  have hoff' : D.off = false := by simpa using hoff
  by_cases hc : (scan D 8).isEmpty = true ∨ (lastE D).sl = 2
  · rw [if_pos hc] at ho
    cases ho
    exact (sopen_new h1 hoff' hc).mono fun _ w' ⟨p, he, hb, hp, hs⟩ => ⟨p, he, hfin w' p hb hp hs, hb, hp, hs⟩
  rw [if_neg hc] at ho
  by_cases hr : (rdk D (lastE D)).2.2 = 0
  · rw [if_neg (by rw [hr]; simp)] at ho
    cases ho
    refine (sopen_read h1 hoff' (by have := fun h => hc (.inl h); simpa using this) (fun h => hc (.inr h))).mono ?_
    rintro e w' ⟨hb, hx⟩
    rw [if_pos hr] at hx
    obtain ⟨p, he, hp, hs⟩ := hx
    exact ⟨p, he, hfin w' p hb hp hs, hb, hp, hs⟩
  · rw [if_pos hr] at ho
    cases ho
/-- Open while another store is there: the told blocks stay. -/
theorem SX.opens {k2 : Kp} {odd2 : Bool} (h : SX w0 w b p D k odd wt X) (ho : sopen D = (some (k2, odd2), 0)) : Calls Try.prog 41 #[.pointer (some ⟨b, 0, none⟩)] w fun e w' => ∃ p', e = .returned (.tuple #[.pointer (some ⟨p', 0, none⟩), .int .i64 0]) ∧ SX w0 w' b p' D k2 odd2 none X ∧ Below w.heap.size w w' := by
  refine (h.dk.opens ho).mono ?_
  rintro e w' ⟨p', he, hd, hb, hp, hs⟩
  refine ⟨p', he, ?_, hb⟩
  obtain ⟨F, q, h1, h2, h3, h4, h5, h6, h7, h8⟩ := h.ex
  have h9 := h8.ext hb
  exact ⟨F, 0, h1.ext hb, hs, fun hc => by have := h1.lt p' hc; omega, fun hc => absurd rfl hc, h5, Nat.le_trans h7.size hp, h7.trans (hb.mono h7.size), ⟨fun e he => ⟨(h9.at_ e he).1, (h9.at_ e he).2.1, fun hc => by have := blk_lt (h8.at_ e he).1; omega⟩⟩⟩
theorem new_dk (n : Nat) (hn1 : 16 ≤ n) (hn2 : n ≤ 512) (w : World) :
    Calls Try.prog 24 #[.int .i64 (n : Int)] w fun e w' => ∃ b, e = .returned (.tuple #[.pointer (some ⟨b, 0, none⟩), .int .i64 0]) ∧ DK w w' b (Ds0 n) :=
  (new_d n hn1 hn2 w).mono fun _ _ ⟨b, F, he, hd, hb, hf⟩ => ⟨b, he, F, hd, hf, hb⟩
end
end Go.Proofs.Ytkdakmddlkgjkaa
