import Derived.ProofKit
import Derived.OpenShut
import Derived.ChangeBook
import Derived.ChangeBears
import Derived.ChangeStays
import Derived.Deep.Fields
import Derived.Test.YtkdakmddlkgjkaaRows
namespace Go.Proofs.Ytkdakmddlkgjkaa
set_option maxRecDepth 100000
open Go.ChangeShapes Go.WideShapes Go.ChangeAt Go.RowKit Go.Deep
open Go.ChangeMaps (open_string shut_string)
/-! The end of a law that returns true and leaves every argument as it was. -/
theorem fr_laid : laidOutB Try.prog = true := by kernel_rfl
theorem fr_own : ownKnob Try.prog.godebug = none := by kernel_rfl
section
variable {H : Type} {enc : TypeId × Value → H} {W W' : World}
theorem fr_carry {t : TypeId} {v : Value} {d : DataW H} {p : List MemPlace} (hr : Try.prog.readableRec t = true ∧ t < Try.prog.types.size) (hb : Below W.heap.size W W') (hlt : ∀ x ∈ p, x.block < W.heap.size)
    (h : DataW.Trod enc Try.prog W 0 (fun _ => true) true t v d p) : DataW.Trod enc Try.prog W' 0 (fun b => decide (b < W.heap.size)) true t v d p := by
  obtain ⟨n, h⟩ := h
  refine ⟨n, DataW.trod_stays (kids_book fr_laid hr.1) (book_sized hr.1) (fun h => by cases h) ⟨hr.2, book_self t⟩ h (fun q hq => ?_) (fun q hq => by simpa using hlt q hq)⟩
  cases q with
  | cell b off => exact hb.cell (p := ⟨b, off, none⟩) (hlt _ hq)
  | map b => exact hb.block b (hlt _ hq)
theorem fr_all (hb : Below W.heap.size W W') : ∀ (ts : List TypeId) (vs : List Value) (ds : List (DataW H)) (ps : List MemPlace), (∀ t ∈ ts, Try.prog.readableRec t = true ∧ t < Try.prog.types.size) → (∀ x ∈ ps, x.block < W.heap.size) →
    DataW.TrodAll enc Try.prog W 0 (fun _ => true) true ts vs ds ps → DataW.TrodAll enc Try.prog W' 0 (fun b => decide (b < W.heap.size)) true ts vs ds ps
  | [], vs, ds, ps, _, _, h => by
    obtain ⟨rfl, rfl, rfl⟩ := trodAll_nil h
    rfl
  | t :: ts, vs, ds, ps, hr, hlt, h => by
    obtain ⟨v, vs', d, ds', p, q, rfl, rfl, rfl, hd, hrest⟩ := trodAll_cons h
    exact ⟨p, q, fr_carry (hr t (by simp)) hb (fun x hx => hlt x (by simp [hx])) hd, fr_all hb ts vs' ds' q (fun u hu => hr u (by simp [hu])) (fun x hx => hlt x (by simp [hx])) hrest, rfl⟩
/-- The law returned true, and but for new memory nothing has turned. -/
theorem fr_post {f : Func} {s : ChangeSpec} {args : Array Value} {ds gs : List (DataW H)} {before : List MemPlace} (hv : s.vars = []) (hrt : f.resultTypes = #[4])
    (hfn : (s.fn H ds).results = [.lit (.bool true)] ∧ (s.fn H ds).args = ds ∧ (s.fn H ds).vars = []) (hr : ∀ t ∈ f.params.toList, Try.prog.readableRec t = true ∧ t < Try.prog.types.size)
    (hW : DataW.Whole enc Try.prog f.params.toList s.vars false W args.toList ds gs before) (hb : Below W.heap.size W W') :
    s.post enc Try.prog f false true false false W args (.bool true) W' := by
  have hW' := hW
  obtain ⟨p, q, hA, hV, hpq, hfz, hnd⟩ := hW
  rw [hv] at hV
  obtain ⟨rfl, rfl⟩ := trodVars_none hV
  rw [List.append_nil] at hpq
  subst hpq
  refine ⟨ds, [], before, [], before, [], hW', ?_, ?_, ?_, hb.frame _, fun h => by cases h⟩
  · rw [List.append_nil, hfn.1, hrt]
    exact trodAll_mk1 (shut_bool Try.underlying4 true)
  · rw [List.append_nil, hfn.2.1]
    exact fr_all hb _ _ _ _ hr hW'.lt hA
  · rw [List.append_nil, hfn.2.2, hv]
    rfl
/-- A struct of four ints and a string, by value. -/
theorem fr_ent {base : Nat} {t : TypeId} {fs : Array Field} {v : Value} {d : DataW H} {p : List MemPlace} (hs : Try.prog.underlying t = some (.struct fs)) (hone : oneCellFields Try.prog fs = true) (hC : Try.prog.cellsOf t = 5)
    (hf : fs.map (·.type) = #[3, 3, 3, 3, 9]) (hv : Value.okWide Try.prog W .any base t v) (h : DataW.Trod enc Try.prog W 0 (fun _ => true) true t v d p) :
    ∃ (k n sl sz : Int) (s : ByteArray), v = .agg #[.int .i64 k, .int .i64 n, .int .i64 sl, .int .i64 sz, .string s] ∧ s.size ≤ maxLen := by
  obtain ⟨cs, rfl, hsz⟩ := okWide_struct hs hv
  rw [hC] at hsz
  obtain ⟨n, h⟩ := h
  obtain ⟨xs, m, _, _, hcl, hxl, hg⟩ := DataW.trod_struct hs h
  have hfl : fs.size = 5 := by have := congrArg Array.size hf; simpa using this
  have hat : ∀ (j : Nat) (hj : j < 5), ∃ y u, (fs[j]'(by omega)).type = u ∧ DataW.trod enc Try.prog W 0 (fun _ => true) true m u [cs[j]'(by omega)] = some y := by
    intro j hj
    have hj2 : fs[j]? = some (fs[j]'(by omega)) := Array.getElem?_eq_getElem (by omega)
    obtain ⟨o, c⟩ := hone_of hone j _ hj2
    have h1 := hg j _ hj2
    rw [o, c] at h1
    have h2 : ((Value.agg cs).cells.toList.drop j).take 1 = [cs[j]'(by omega)] := by
      show (cs.toList.drop j).take 1 = _
      rw [List.drop_eq_getElem_cons (by simpa using by omega)]
      simp
    rw [h2, List.getElem?_eq_getElem (by omega)] at h1
    exact ⟨_, _, rfl, h1⟩
  have hty : ∀ (j : Nat) (hj : j < 5), (fs[j]'(by omega)).type = (#[3, 3, 3, 3, 9] : Array TypeId)[j]'(by simpa using hj) := by
    intro j hj
    have := congrArg (fun (a : Array TypeId) => a[j]?) hf
    simp only [Array.getElem?_map, Array.getElem?_eq_getElem (show j < fs.size by omega), Option.map_some] at this
    rw [Array.getElem?_eq_getElem (by simpa using hj)] at this
    exact Option.some.inj this
  obtain ⟨y0, u0, e0, h0⟩ := hat 0 (by decide)
  obtain ⟨y1, u1, e1, h1⟩ := hat 1 (by decide)
  obtain ⟨y2, u2, e2, h2⟩ := hat 2 (by decide)
  obtain ⟨y3, u3, e3, h3⟩ := hat 3 (by decide)
  obtain ⟨y4, u4, e4, h4⟩ := hat 4 (by decide)
  rw [hty 0 (by decide)] at e0
  rw [hty 1 (by decide)] at e1
  rw [hty 2 (by decide)] at e2
  rw [hty 3 (by decide)] at e3
  rw [hty 4 (by decide)] at e4
  subst e0 e1 e2 e3 e4
  obtain ⟨k0, g0, _, _⟩ := DataW.trod_int Try.underlying3 h0
  obtain ⟨k1, g1, _, _⟩ := DataW.trod_int Try.underlying3 h1
  obtain ⟨k2, g2, _, _⟩ := DataW.trod_int Try.underlying3 h2
  obtain ⟨k3, g3, _, _⟩ := DataW.trod_int Try.underlying3 h3
  obtain ⟨s, g4, _, hsm⟩ := DataW.trod_string Try.underlying9 h4
  refine ⟨k0, k1, k2, k3, s, ?_, hsm⟩
  congr 1
  simp only [List.cons.injEq, and_true] at g0 g1 g2 g3 g4
  apply Array.ext
  · simp [hsz]
  · intro i hi _
    rw [hsz] at hi
    match i, hi with
    | 0, _ => exact g0
    | 1, _ => exact g1
    | 2, _ => exact g2
    | 3, _ => exact g3
    | 4, _ => exact g4
end
end Go.Proofs.Ytkdakmddlkgjkaa
