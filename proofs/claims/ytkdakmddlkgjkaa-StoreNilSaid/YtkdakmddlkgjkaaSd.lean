import Derived.Test.YtkdakmddlkgjkaaPr
import Derived.Test.YtkdakmddlkgjkaaCy
import Derived.Test.YtkdakmddlkgjkaaDp
open Go.RowKit Go.Lib
namespace Go.Proofs.Ytkdakmddlkgjkaa
set_option maxRecDepth 100000
open Sha
/-! A disk, and a store over it, both made since w0: what the methods do to them. -/
structure DK (w0 w : World) (b : Nat) (D : Ds) : Prop where
  ex : ∃ F, IsDisk w b D F ∧ (∀ i, F i → w0.heap.size ≤ i) ∧ Below w0.heap.size w0 w
structure SD (w0 w : World) (b p : Nat) (D : Ds) (k : Kp) (odd : Bool) (wt : Option Kp) : Prop where
  ex : ∃ F q, IsDisk w b D F ∧ StAt w p b k odd (wt.map fun k' => (q, k')) ∧ ¬ F p ∧ (wt ≠ none → ¬ F q) ∧ (∀ i, F i → w0.heap.size ≤ i) ∧ w0.heap.size ≤ p ∧ Below w0.heap.size w0 w
def txt (k : Kp) : List UInt8 := if k.sl = 2 then [] else k.tx
def has (k : Kp) : Bool := if k.sl = 2 then false else true
section
variable {w0 w w' : World} {b p : Nat} {D : Ds} {k : Kp} {odd : Bool} {wt : Option Kp}
theorem SD.dk (h : SD w0 w b p D k odd wt) : DK w0 w b D := by
  obtain ⟨F, q, h1, _, _, _, h5, _, h7⟩ := h.ex
  exact ⟨F, h1, h5, h7⟩
theorem SD.bel (h : SD w0 w b p D k odd wt) : Below w0.heap.size w0 w := by
  obtain ⟨F, q, _, _, _, _, _, _, h7⟩ := h.ex
  exact h7
theorem DK.bel (h : DK w0 w b D) : Below w0.heap.size w0 w := by
  obtain ⟨F, _, _, h7⟩ := h.ex
  exact h7
theorem DK.ok (h : DK w0 w b D) : D.ok := by
  obtain ⟨F, h1, _, _⟩ := h.ex
  exact h1.ok
theorem SD.st (h : SD w0 w b p D k odd wt) : ∃ q, StAt w p b k odd (wt.map fun k' => (q, k')) := by
  obtain ⟨F, q, _, h2, _⟩ := h.ex
  exact ⟨q, h2⟩
theorem SD.ext (h : SD w0 w b p D k odd wt) (hb : Below w.heap.size w w') : SD w0 w' b p D k odd wt := by
  obtain ⟨F, q, h1, h2, h3, h4, h5, h6, h7⟩ := h.ex
  exact ⟨F, q, h1.ext hb, h2.below hb, h3, h4, h5, h6, h7.trans (hb.mono h7.size)⟩
theorem DK.ext (h : DK w0 w b D) (hb : Below w.heap.size w w') : DK w0 w' b D := by
  obtain ⟨F, h1, h5, h7⟩ := h.ex
  exact ⟨F, h1.ext hb, h5, h7.trans (hb.mono h7.size)⟩
theorem SD.alloc (h : SD w0 w b p D k odd wt) (o : Obj) : SD w0 (w.alloc o) b p D k odd wt := h.ext ((Below.refl _ _).alloc (Nat.le_refl _) o)
theorem DK.alloc (h : DK w0 w b D) (o : Obj) : DK w0 (w.alloc o) b D := h.ext ((Below.refl _ _).alloc (Nat.le_refl _) o)
theorem SD.drew (h : SD w0 w b p D k odd wt) : SD w0 w.drew b p D k odd wt := h.ext (Below.refl _ _).drew
/-- a store of which it is known that it stands apart from the disk -/
theorem DK.sd (h : DK w0 w b D) (hs : StAt w p b k odd none) (hp : ∀ F, IsDisk w b D F → (∀ i, F i → w0.heap.size ≤ i) → ¬ F p) (h6 : w0.heap.size ≤ p) : SD w0 w b p D k odd none := by
  obtain ⟨F, h1, h5, h7⟩ := h.ex
  exact ⟨F, 0, h1, hs, hp F h1 h5, fun hc => absurd rfl hc, h5, h6, h7⟩
theorem up_below {F : Nat → Prop} (h5 : ∀ i, F i → w0.heap.size ≤ i) (h6 : w0.heap.size ≤ p) (h7 : Below w0.heap.size w0 w) (hu : Upd (fun i => F i ∨ i = p) w w') : Below w0.heap.size w0 w' :=
  h7.trans (hu.below h7.size fun i hi => hi.elim (h5 i) (fun e => e ▸ h6))
theorem SD.text (h : SD w0 w b p D k odd wt) : Calls Try.prog 45 #[.pointer (some ⟨p, 0, none⟩)] w fun e w' => e = .returned (.tuple #[.string ⟨(txt k).toArray⟩, .bool (has k)]) ∧ w = w' := by
  obtain ⟨q, hs⟩ := h.st
  unfold txt has
  by_cases hk : k.sl = 2
  · rw [if_pos hk, if_pos hk]; exact stext_no hs hk
  · rw [if_neg hk, if_neg hk]; exact stext_yes hs hk
theorem SD.waits (h : SD w0 w b p D k odd wt) : Calls Try.prog 46 #[.pointer (some ⟨p, 0, none⟩)] w fun e w' => e = .returned (.bool wt.isSome) ∧ w = w' := by
  obtain ⟨q, hs⟩ := h.st
  cases wt with
  | none => exact swaits_no hs
  | some k2 => exact swaits_yes (q := (q, k2)) hs
theorem SD.isodd (h : SD w0 w b p D k odd wt) : Calls Try.prog 48 #[.pointer (some ⟨p, 0, none⟩)] w fun e w' => e = .returned (.bool odd) ∧ w = w' := by
  obtain ⟨q, hs⟩ := h.st
  exact sodd_c hs
theorem SD.prep (h : SD w0 w b p D k odd wt) (hops : D.ops + 400 < 1000000000) (hgh : D.gh + 400 < 1000000000) (hl : k.tx.length < 1000000) (tx : List UInt8) (htx : tx.length < 1000000) :
    Calls Try.prog 43 #[.pointer (some ⟨p, 0, none⟩), .string ⟨tx.toArray⟩] w fun e w' => e = .returned (.int .i64 ((sprep D k tx).1 : Nat)) ∧ SD w0 w' b p (sprep D k tx).2.1 k odd (sprep D k tx).2.2 := by
  obtain ⟨F, q, h1, h2, h3, h4, h5, h6, h7⟩ := h.ex
  refine (sprep_c h1 h3 hops hgh hl tx htx h2).mono ?_
  rintro e w' ⟨he, F', d1, ⟨q', d2, d3⟩, d4, d5⟩
  have hlt := blk_lt h2.blk
  refine ⟨he, F', q', d1, d2, fun hc => (d5 p hc).elim h3 (fun h => by omega), d3, fun i hi => (d5 i hi).elim (h5 i) (fun h => Nat.le_trans h7.size h), h6, up_below h5 h6 h7 d4⟩
theorem SD.commit_no (h : SD w0 w b p D k odd none) : Calls Try.prog 44 #[.pointer (some ⟨p, 0, none⟩)] w fun e w' => e = .returned (.int .i64 8) ∧ SD w0 w' b p D k odd none := by
  obtain ⟨q, hs⟩ := h.st
  exact (scommit_no hs).mono fun _ _ ⟨he, hb⟩ => ⟨he, h.ext hb⟩
theorem SD.drop_no (h : SD w0 w b p D k odd none) : Calls Try.prog 47 #[.pointer (some ⟨p, 0, none⟩)] w fun e w' => e = .returned (.int .i64 8) ∧ SD w0 w' b p D k odd none := by
  obtain ⟨q, hs⟩ := h.st
  exact (sdrop_no hs).mono fun _ _ ⟨he, hb⟩ => ⟨he, h.ext hb⟩
/-- what is kept, and whether it is odd, behind Commit -/
theorem SD.commit {k2 : Kp} (h : SD w0 w b p D k odd (some k2)) (hops : D.ops + 2 < 1000000000) (hgh : D.gh + 1 < 1000000000) (hl : k2.tx.length < 1000000) :
    Calls Try.prog 44 #[.pointer (some ⟨p, 0, none⟩)] w fun e w' => e = .returned (.int .i64 ((app D (k2.ent 2)).1 : Nat)) ∧ SD w0 w' b p (app D (k2.ent 2)).2.2 (if (app D (k2.ent 2)).1 = 0 then k2 else k) (if (app D (k2.ent 2)).1 = 0 then false else odd) none := by
  obtain ⟨F, q, h1, h2, h3, h4, h5, h6, h7⟩ := h.ex
  refine (scommit_yes h1 h3 hops hgh hl h2).mono ?_
  rintro e w' ⟨he, F', d1, d2, d4, d5⟩
  have hlt := blk_lt h2.blk
  refine ⟨he, F', 0, d1, ?_, fun hc => (d5 p hc).elim h3 (fun h => by omega), fun hc => absurd rfl hc, fun i hi => (d5 i hi).elim (h5 i) (fun h => Nat.le_trans h7.size h), h6, up_below h5 h6 h7 d4⟩
  by_cases hc : (app D (k2.ent 2)).1 = 0
  · rw [if_pos hc] at d2; rw [if_pos hc, if_pos hc]; exact d2
  · rw [if_neg hc] at d2; rw [if_neg hc, if_neg hc]; exact d2
theorem SD.drop {k2 : Kp} (h : SD w0 w b p D k odd (some k2)) (hops : D.ops + 2 < 1000000000) (hgh : D.gh + 1 < 1000000000) (hl : k.tx.length < 1000000) :
    Calls Try.prog 47 #[.pointer (some ⟨p, 0, none⟩)] w fun e w' => e = .returned (.int .i64 ((app D (k.ent 3)).1 : Nat)) ∧ SD w0 w' b p (app D (k.ent 3)).2.2 k odd none := by
  obtain ⟨F, q, h1, h2, h3, h4, h5, h6, h7⟩ := h.ex
  refine (sdrop_yes h1 h3 hops hgh hl h2).mono ?_
  rintro e w' ⟨he, F', d1, d2, d4, d5⟩
  have hlt := blk_lt h2.blk
  exact ⟨he, F', 0, d1, d2, fun hc => (d5 p hc).elim h3 (fun h => by omega), fun hc => absurd rfl hc, fun i hi => (d5 i hi).elim (h5 i) (fun h => Nat.le_trans h7.size h), h6, up_below h5 h6 h7 d4⟩
/-- what a call that turns the disk alone leaves -/
theorem SD.turn {D2 : Ds} {F : Nat → Prop} {q : Nat} (hs : StAt w p b k odd (wt.map fun k' => (q, k'))) (h3 : ¬ F p) (h4 : wt ≠ none → ¬ F q) (h5 : ∀ i, F i → w0.heap.size ≤ i) (h6 : w0.heap.size ≤ p) (h7 : Below w0.heap.size w0 w) (hd : IsDisk w' b D2 F) (hu : Upd F w w') : SD w0 w' b p D2 k odd wt := by
  refine ⟨F, q, hd, hs.keep (hu.block p (blk_lt hs.blk) h3) (fun q' k' e => ?_), h3, h4, h5, h6, h7.trans (hu.below h7.size h5)⟩
  cases wt with
  | none => cases e
  | some k2 => cases e; exact hu.block q (blk_lt (hs.wq _ _ rfl).1) (h4 (by simp))
theorem SD.fail (h : SD w0 w b p D k odd wt) (mask : Nat) : Calls Try.prog 34 #[.pointer (some ⟨b, 0, none⟩), .int .u64 (mask : Int)] w fun e w' => e = .returned (.tuple #[]) ∧ SD w0 w' b p (D.fail mask) k odd wt := by
  obtain ⟨F, q, h1, h2, h3, h4, h5, h6, h7⟩ := h.ex
  exact (fail_c h1 mask).mono fun _ _ ⟨he, hd, hu⟩ => ⟨he, SD.turn h2 h3 h4 h5 h6 h7 hd hu⟩
theorem SD.start (h : SD w0 w b p D k odd wt) : Calls Try.prog 36 #[.pointer (some ⟨b, 0, none⟩)] w fun e w' => e = .returned (.tuple #[]) ∧ SD w0 w' b p D.start k odd wt := by
  obtain ⟨F, q, h1, h2, h3, h4, h5, h6, h7⟩ := h.ex
  exact (start_c h1).mono fun _ _ ⟨he, hd, hu⟩ => ⟨he, SD.turn h2 h3 h4 h5 h6 h7 hd hu⟩
theorem SD.plan (h : SD w0 w b p D k odd wt) (n mask : Nat) (hn : n < 9223372036854775808) (hm : mask < 18446744073709551616) : Calls Try.prog 32 #[.pointer (some ⟨b, 0, none⟩), .int .i64 (n : Int), .int .u64 (mask : Int)] w fun e w' => e = .returned (.int .i64 0) ∧ SD w0 w' b p (D.plan n mask) k odd wt := by
  obtain ⟨F, q, h1, h2, h3, h4, h5, h6, h7⟩ := h.ex
  exact (plan_c h1 n mask hn hm).mono fun _ _ ⟨he, hd, hu⟩ => ⟨he, SD.turn h2 h3 h4 h5 h6 h7 hd hu⟩
/-- Open, where a store comes of it. -/
theorem DK.opens (h : DK w0 w b D) (ho : sopen D = (some (k, odd), 0)) : Calls Try.prog 41 #[.pointer (some ⟨b, 0, none⟩)] w fun e w' => ∃ p, e = .returned (.tuple #[.pointer (some ⟨p, 0, none⟩), .int .i64 0]) ∧ SD w0 w' b p D k odd none ∧ Below w.heap.size w w' ∧ w.heap.size ≤ p ∧ StAt w' p b k odd none := by
  obtain ⟨F, h1, h5, h7⟩ := h.ex
  have hfin : ∀ w' p, Below w.heap.size w w' → w.heap.size ≤ p → StAt w' p b k odd none → SD w0 w' b p D k odd none := fun w' p hb hp hs =>
    ⟨F, 0, h1.ext hb, hs, fun hc => by have := h1.lt p hc; omega, fun hc => absurd rfl hc, h5, Nat.le_trans h7.size hp, h7.trans (hb.mono h7.size)⟩
  unfold sopen at ho
  by_cases hoff : D.off = true
  · rw [if_pos hoff] at ho; cases ho
  rw [if_neg hoff] at ho
  have hoff' : D.off = false := by simpa using hoff
  by_cases hc : (scan D 8).isEmpty = true ∨ (lastE D).sl = 2
  · rw [if_pos hc] at ho
    cases ho
    exact (sopen_new h1 hoff' hc).mono fun _ w' ⟨p, he, hb, hp, hs⟩ => ⟨p, he, hfin w' p hb hp hs, hb, hp, hs⟩
  rw [if_neg hc] at ho
  by_cases hr : (rdk D (lastE D)).2.2 = 0
  · rw [if_neg (by rw [hr]; simp)] at ho
    cases ho
    refine (sopen_read h1 hoff' (by have := fun h => hc (.inl h); simpa using this) (fun h => hc (.inr h))).mono ?_
    rintro e w' ⟨hb, hx⟩
    rw [if_pos hr] at hx
    obtain ⟨p, he, hp, hs⟩ := hx
    exact ⟨p, he, hfin w' p hb hp hs, hb, hp, hs⟩
  · rw [if_pos hr] at ho
    cases ho
theorem new_dk (n : Nat) (hn1 : 16 ≤ n) (hn2 : n ≤ 512) (w : World) :
    Calls Try.prog 24 #[.int .i64 (n : Int)] w fun e w' => ∃ b, e = .returned (.tuple #[.pointer (some ⟨b, 0, none⟩), .int .i64 0]) ∧ DK w w' b (Ds0 n) :=
  (new_d n hn1 hn2 w).mono fun _ _ ⟨b, F, he, hd, hb, hf⟩ => ⟨b, he, F, hd, hf, hb⟩
end
end Go.Proofs.Ytkdakmddlkgjkaa
