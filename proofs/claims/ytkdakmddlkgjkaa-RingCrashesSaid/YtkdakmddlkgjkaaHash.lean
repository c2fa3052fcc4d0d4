import Derived.Test.YtkdakmddlkgjkaaDig6
import Derived.Test.YtkdakmddlkgjkaaRd
open Go.RowKit
namespace Go.Proofs.Ytkdakmddlkgjkaa
set_option maxRecDepth 100000
open Sha
def hcells (v : S8) (rv : Value) (n : Nat) : Array Value := #[.bool true, u32v v.a, u32v v.b, u32v v.c, u32v v.d, u32v v.e, u32v v.f, u32v v.g, u32v v.h, rv, .int .i64 n]
/-- Block b holds a digest under way: its words, what waits, how many bytes. -/
def HS (w : World) (b : Nat) (v : S8) (rest : List UInt8) (n : Nat) : Prop :=
  ∃ rv, w.heap[b]? = some (.cells (hcells v rv n) 148 (0, 0)) ∧ RdB w rv rest ∧ rv.ownBlock ≠ some b
/-- The digest behind all whole blocks of T. -/
def HSa (w : World) (b : Nat) (v : S8) (T : List UInt8) (n : Nat) : Prop := HS w b (blocks (T.length / 64) v T) (T.drop (64 * (T.length / 64))) n
theorem there_c (b : Nat) (w : World) (h : w.cell? ⟨b, 0, none⟩ = some (.bool true)) :
    Calls Try.prog 94 #[.pointer (some ⟨b, 0, none⟩)] w fun e w' => e = .returned (.bool true) ∧ w = w' := by
  go_enter Try.func94, Try.ntmps94
  go_wp2
  go_ret
  exact ⟨rfl, rfl⟩
section
variable {ops : Array Oper} {Q : Exit → Act → World → Prop} {dst : Option Tmp} {ty : TypeId} {pos : String} {aft : Array Edge} {a : Act} {w : World} {K : Act → World → Prop} {l : List UInt8}
theorem W_appcap (s x : Operand) (ad : Option Addr) (n c : Nat) (str : ByteArray) (hrd : RdB w (.slice ad n c) l)
    (hp : a.eval s = .slice ad n n ∧ a.eval x = .string str ∧ l.length + str.size ≤ 140737488355328)
    (h : ∀ v' w', RdB w' v' (l ++ str.data.toList) → Below w.heap.size w w' → (∀ k, v'.ownBlock = some k → (Value.slice ad n n).ownBlock = some k ∨ k = w.heap.size) → K (a.put dst v') w') :
    Oper.wp Try.prog ⟨dst, .call { callee := .builtin .append, args := #[s, x], argTypes := #[38, 9] }, ty, pos, aft, none⟩ a w K Q := by
  obtain ⟨v', w', hr, h2, h3, h4⟩ := hrd.app str hp.2.2 ty
  unfold Oper.wp execOp
  simp only [resolve, invoke, builtin, Sem.run_bind, Sem.run_pure, Result.andThen_ok, List.map_toArray, List.map_cons, List.map_nil, hp.1, hp.2.1, hr]
  exact h v' w' h2 h3 h4
theorem W_from (x : Operand) (k : Nat) (kl : IntKind) (lo : Operand) (ad : Option Addr) (n c : Nat) (hrd : RdB w (.slice ad n c) l)
    (hp : a.eval x = .slice ad n c ∧ a.eval lo = .int kl k ∧ k ≤ l.length)
    (h : ∀ v', RdB w v' (l.drop k) → (∀ b, v'.ownBlock = some b → (Value.slice ad n c).ownBlock = some b) → K (a.put dst v') w) :
    Oper.wp Try.prog ⟨dst, .slice 38 x (some lo) none none, ty, pos, aft, none⟩ a w K Q := by
  obtain ⟨v', hr, h2, h3⟩ := hrd.from k hp.2.2 kl
  unfold Oper.wp execOp
  simp only [hp.1, hp.2.1, Option.map_some, Option.map_none, Sem.run_bind, hr, Result.andThen_ok, Sem.run_pure]
  exact h v' h2 h3
theorem W_store_mid (t : TypeId) (x y : Operand) (g o : Nat) (cells : List Value) (t' : TypeId) (old : Array Value)
    (hp : a.eval x = .pointer (some ⟨g, o, none⟩) ∧ a.eval y = .agg cells.toArray ∧ w.heap[g]? = some (.cells old t' (0, 0)) ∧ o + cells.length ≤ old.size ∧ (Try.prog.info? t).map (·.size) = some cells.length ∧ cells.toArray.all (·.oneCell') = true)
    (h : K (a.put dst undef) (w.setCells g o cells)) : Oper.wp Try.prog ⟨dst, .store t x y, ty, pos, aft, none⟩ a w K Q := by
  obtain ⟨h1, h2, h3, h4, h5, h6⟩ := hp
  refine wp_store_mid t x y rfl g o cells.toArray h1 h2 (fun j hj => ?_) (by simpa using h5) h6 (by simpa using h)
  simp only [List.size_toArray] at hj
  refine ⟨?_, blk_free h3 _⟩
  rw [blk_cell h3, Array.getElem?_eq_getElem (by omega)]; rfl
end
theorem new_c (w : World) : Calls Try.prog 78 #[] w fun e w' => ∃ b, e = .returned (.pointer (some ⟨b, 0, none⟩)) ∧ w.heap.size ≤ b ∧ HS w' b V0 [] 0 ∧ Below w.heap.size w w' := by
  go_enter Try.func78, Try.ntmps78
  go_wp2_with fail
  refine (first_c _).mono ?_
  rintro e w1 ⟨rfl, hb⟩
  have HB := Hd.mk hb
  clear hb
  go_wp2_with ((with_reducible refine L_build 148 _ (hcells V0 (.slice none 0 0) 0) ?cb ?_); (case cb => kernel_rfl))
  go_ret
  refine ⟨_, rfl, HB.out.size, ⟨.slice none 0 0, blk_new _ _ _ _ _ rfl, RdB.nil _, by simp [Value.ownBlock]⟩, HB.out.alloc HB.out.size _⟩
theorem hput (y : S8) (z0 z1 z2 z3 z4 z5 z6 z7 : UInt32) (rv : Value) (n : Nat) : putArr (hcells y rv n) 1 [u32v z0, u32v z1, u32v z2, u32v z3, u32v z4, u32v z5, u32v z6, u32v z7] = hcells ⟨z0, z1, z2, z3, z4, z5, z6, z7⟩ rv n := by
  simp [putArr, hcells]
def slLen : Value → Nat | .slice _ l _ => l | _ => 0
theorem blocks_succ (k : Nat) (v : S8) (l : List UInt8) : blocks (k + 1) v l = mix (blocks k v l) ((l.drop (64 * k)).take 64) := by
  induction k generalizing v l with
  | zero => simp [blocks]
  | succ k ih =>
    rw [blocks, ih, List.drop_drop]
    rw [show 64 + 64 * k = 64 * (k + 1) by omega]
    rfl
set_option maxRecDepth 100000 in
set_option maxHeartbeats 1000000 in
theorem write_c (b n : Nat) (v : S8) (rest : List UInt8) (s : ByteArray) (w : World) (hH : HS w b v rest n) (hn : n ≤ 1152921504606846976) (hs : rest.length + s.size ≤ 140737488355328) :
    Calls Try.prog 79 #[.pointer (some ⟨b, 0, none⟩), .string s] w fun e w' => e = .returned (.tuple #[]) ∧
      HSa w' b v (rest ++ s.data.toList) (n + s.size) ∧ Upd (· = b) w w' := by
  obtain ⟨rv, hblk, hrd, hne⟩ := hH
  have c0 : w.cell? ⟨b, 0, none⟩ = some (.bool true) := blk_cell hblk 0
  have c10 : w.cell? ⟨b, 10, none⟩ = some (.int .i64 n) := blk_cell hblk 10
  have f10 : w.frozen? ⟨b, 10, none⟩ = false := blk_free hblk 10
  have HBL := Hd.mk hblk
  have HRD := Hd.mk hrd
  have HNE := Hd.mk hne
  clear hblk hrd hne
  go_enter Try.func79, Try.ntmps79
  go_wp2_with (go_at_call 94; refine (there_c _ _ c0).mono ?_; rintro e w' ⟨rfl, rfl⟩)
  refine wp_world (fun w1 => w1.heap[b]? = some (.cells (hcells v rv (n + s.size)) 148 (0, 0)) ∧ RdB w1 rv rest ∧ Upd (· = b) w w1) ⟨?_, ?_, ?_⟩ ?_
  · have := blk_set HBL.out 10 (.int .i64 ((n : Int) + (s.size : Int)))
    rw [this]
    rfl
  · exact HRD.out.keep (by simp [World.setCell]) fun k hk => Below.heap_setCell _ _ _ _ (fun he => HNE.out (by rw [hk, he]))
  · exact (Upd.refl (fun x => x = b) w).setCell (p := ⟨b, 10, none⟩) rfl _
  rintro w1 ⟨h1, h2, h3⟩
  obtain ⟨ad, c, hrv, hc⟩ : ∃ ad c, rv = .slice ad rest.length c ∧ rest.length ≤ c := by obtain ⟨ad, c, q1, q2, _⟩ := h2; exact ⟨ad, c, q1, q2⟩
  subst hrv
  have c9 : w1.cell? ⟨b, 9, none⟩ = some (.slice ad rest.length c) := blk_cell h1 9
  have hl0 : (0 : Int) ≤ (rest.length : Int) := by omega
  have hlc : (rest.length : Int) ≤ (c : Int) := by omega
  have HBL := Hd.mk h1
  have HRD := Hd.mk h2
  have HU := Hd.mk h3
  clear h1 h2 h3 c0 c10 f10
  refine region_qd 16 (by kernel_rfl) (by kernel_rfl) ?_
  simp only [List.take_succ_cons, List.take_zero, List.drop_succ_cons, List.drop_zero]
  repeat go_big_quiet_step (fail)
  refine wpQuiet_nil ?_
  intro nr
  refine wpList_plain rfl fun K hK => W_appcap (.tmp 31) (.tmp 32) ad rest.length c s (HRD.out.drewN nr) ⟨rfl, rfl, hs⟩ fun v' w2 g1 g2 g3 => hK _ _ ?_
  have hb1 : b < w1.heap.size := blk_lt HBL.out
  have g4 : v'.ownBlock ≠ some b := by
    intro hc
    rcases g3 b hc with h | h
    · exact HNE.out (by cases ad <;> exact h)
    · have : b = w1.heap.size := h
      omega
  have HBL2 : Hd (w2.heap[b]? = some (.cells (hcells v (.slice ad rest.length c) (n + s.size)) 148 (0, 0))) := ⟨by rw [g2.block b hb1]; exact HBL.out⟩
  have HU2 : Hd (Upd (fun x => x = b) w w2) := ⟨(HU.out.drewN nr).ext g2⟩
  have HR2 := Hd.mk g1
  have HN2 := Hd.mk g4
  clear g1 g2 g3 g4 HBL HU HRD c9 hlc hl0 hK
  have hT : (rest ++ s.data.toList).length ≤ 140737488355328 := by simpa using hs
  generalize hTT : rest ++ s.data.toList = T at *
  have HT := Hd.mk hTT
  clear hTT
  go_wp2_with fail
  go_loopw [4] (fun x wr => ∃ k : Nat, 64 * k ≤ T.length ∧ RdB wr x (T.drop (64 * k)) ∧ x.ownBlock ≠ some b ∧ (∃ rv', wr.heap[b]? = some (.cells (hcells (blocks k v T) rv' (n + s.size)) 148 (0, 0))) ∧ Upd (fun x => x = b) w wr) (fun x _ => slLen x)
  case atStart => exact ⟨0, by omega, HR2.out, HN2.out, ⟨_, HBL2.out⟩, HU2.out⟩
  case round =>
    clear HBL2 HU2 HR2 HN2
    obtain ⟨k, hk, hrd, hne, ⟨rv', hblk⟩, hu⟩ := hrel
    obtain ⟨ad', c', hx, hc'⟩ : ∃ ad c, u4 = .slice ad (T.drop (64 * k)).length c ∧ (T.drop (64 * k)).length ≤ c := by obtain ⟨ad, c, q1, q2, _⟩ := hrd; exact ⟨ad, c, q1, q2⟩
    subst hx
    have hlen : (T.drop (64 * k)).length = T.length - 64 * k := by simp
    generalize hX : T.drop (64 * k) = X at *
    have HX := Hd.mk hX
    clear hX
    have HLX := Hd.mk hlen
    have HK := Hd.mk hk
    clear hlen hk
    by_cases hlt : 64 ≤ X.length
    · obtain ⟨y0, y1, y2, y3, y4, y5, y6, y7, hy⟩ : ∃ y0 y1 y2 y3 y4 y5 y6 y7, blocks k v T = ⟨y0, y1, y2, y3, y4, y5, y6, y7⟩ := ⟨_, _, _, _, _, _, _, _, rfl⟩
      rw [hy] at hblk
      have HY := Hd.mk hy
      clear hy
      have d1 := fun x => blk_cell (later_blk hblk x) 1
      have d2 := fun x => blk_cell (later_blk hblk x) 2
      have d3 := fun x => blk_cell (later_blk hblk x) 3
      have d4 := fun x => blk_cell (later_blk hblk x) 4
      have d5 := fun x => blk_cell (later_blk hblk x) 5
      have d6 := fun x => blk_cell (later_blk hblk x) 6
      have d7 := fun x => blk_cell (later_blk hblk x) 7
      have d8 := fun x => blk_cell (later_blk hblk x) 8
      simp only [hcells, u32v, List.getElem?_toArray, List.getElem?_cons_zero, List.getElem?_cons_succ] at d1 d2 d3 d4 d5 d6 d7 d8
      have hcv : ∀ x : Later (fun u v => Below u.heap.size u v) wr.drew, (convert 38 9 (.slice ad' 64 c')).run Try.prog x.w = .ok (.string ⟨(X.take 64).toArray⟩) x.w :=
        fun x => ((hrd.drew.ext x.h).take 64 hlt).strof _ Try.underlying38 _ Try.underlying9
      have h64 : (64 : Int) ≤ (c' : Int) := by omega
      have hl64 : (64 : Int) ≤ (X.length : Int) := by omega
      have HBL := Hd.mk hblk
      have HRD := Hd.mk hrd
      have HNE := Hd.mk hne
      have HU := Hd.mk hu
      clear hblk hrd hne hu
      go_wp2_with fail
      refine region_ext [0, 0, 0, 0, 0, 0, 0, 0, 2, 1, 1, 1] (by kernel_rfl) (by kernel_rfl) (fun _ _ _ _ _ h => h) ?_
      simp (decide := true) only [pick, ↓reduceIte]
      repeat go_big_quiet_step (fail)
      refine wpQuiet_nil ?_
      refine wpF_plain rfl ?_
      go_step
      refine (mix_c ⟨y0, y1, y2, y3, y4, y5, y6, y7⟩ _ _ (by show (X.take 64).length = 64; simp; omega)).mono ?_
      rintro e w3 ⟨rfl, hb3'⟩
      refine ⟨hb3', ?_⟩
      have hb3 : Below wr.heap.size wr w3 := (Below.drew (Below.refl _ wr)).trans hb3'
      clear hb3'
      refine wpF_nil ?_
      have hb : b < wr.heap.size := blk_lt HBL.out
      have hbl3 : w3.heap[b]? = some (.cells (hcells ⟨y0, y1, y2, y3, y4, y5, y6, y7⟩ rv' (n + s.size)) 148 (0, 0)) := blk_below HBL.out hb3 hb
      have HBL3 := Hd.mk hbl3
      have HB3 := Hd.mk hb3
      clear hbl3 hb3
      obtain ⟨z0, z1, z2, z3, z4, z5, z6, z7, hz⟩ : ∃ z0 z1 z2 z3 z4 z5 z6 z7, mix ⟨y0, y1, y2, y3, y4, y5, y6, y7⟩ (X.take 64) = ⟨z0, z1, z2, z3, z4, z5, z6, z7⟩ := ⟨_, _, _, _, _, _, _, _, rfl⟩
      have hz' : s8v (mix ⟨y0, y1, y2, y3, y4, y5, y6, y7⟩ (X.take 64)) = (#[u32v z0, u32v z1, u32v z2, u32v z3, u32v z4, u32v z5, u32v z6, u32v z7] : Array Value) := by rw [hz]; rfl
      rw [show (⟨(X.take 64).toArray⟩ : ByteArray).data.toList = X.take 64 from rfl, hz']
      have HZ := Hd.mk hz
      clear hz hz'
      have HBL4 : Hd ((w3.setCells b 1 [u32v z0, u32v z1, u32v z2, u32v z3, u32v z4, u32v z5, u32v z6, u32v z7]).heap[b]? = some (.cells (hcells ⟨z0, z1, z2, z3, z4, z5, z6, z7⟩ rv' (n + s.size)) 148 (0, 0))) := ⟨by rw [← hput ⟨y0, y1, y2, y3, y4, y5, y6, y7⟩]; exact blk_setCells _ _ _ _ HBL3.out⟩
      have HU4 : Hd (Upd (fun x => x = b) w (w3.setCells b 1 [u32v z0, u32v z1, u32v z2, u32v z3, u32v z4, u32v z5, u32v z6, u32v z7])) := ⟨(HU.out.ext HB3.out).setCells rfl _ _⟩
      have HRD2 : Hd (RdB (w3.setCells b 1 [u32v z0, u32v z1, u32v z2, u32v z3, u32v z4, u32v z5, u32v z6, u32v z7]) (.slice ad' X.length c') X) := ⟨(HRD.out.ext HB3.out).upd ((Upd.refl (fun x => x = b) w3).setCells rfl _ _) (fun k hk he => HNE.out (by rw [hk, he]))⟩
      go_wp2_with (first
        | ((with_reducible refine wpList_plain rfl fun K hK => W_store_mid 145 (.tmp 47) (.tmp 45) b 1 [u32v z0, u32v z1, u32v z2, u32v z3, u32v z4, u32v z5, u32v z6, u32v z7] 148 (hcells ⟨y0, y1, y2, y3, y4, y5, y6, y7⟩ rv' (n + s.size)) ?hp (hK _ _ ?_)); (case hp => exact ⟨rfl, rfl, HBL3.out, by simp [hcells], by kernel_rfl, by kernel_rfl⟩))
        | ((with_reducible refine wpList_plain rfl fun K hK => W_from (.tmp 48) 64 .i64 (.const (.int .i64 64)) ad' X.length c' HRD2.out ?hp fun v2 q1 q2 => hK _ _ ?_); (case hp => exact ⟨rfl, rfl, hlt⟩)))
      have Q1 := Hd.mk q1
      have Q2 := Hd.mk q2
      clear q1 q2
      have HT64 : 64 * (k + 1) ≤ T.length := by have := HLX.out; have := HK.out; omega
      go_roundw
      case rel =>
        refine ⟨k + 1, HT64, ?_, fun hc => HNE.out (Q2.out b hc), ⟨rv', ?_⟩, HU4.out⟩
        · rw [show 64 * (k + 1) = 64 * k + 64 by omega, ← List.drop_drop, HX.out]; exact Q1.out
        · rw [blocks_succ, HY.out, HX.out, HZ.out]; exact HBL4.out
      case measure =>
        obtain ⟨a2, c2, q, _⟩ := Q1.out
        rw [q]
        show (X.drop 64).length < X.length
        simp; omega
    · have hlt' : ¬ (64 : Int) ≤ (X.length : Int) := by omega
      have d9 : wr.cell? ⟨b, 9, none⟩ = some rv' := blk_cell hblk 9
      have f9 : wr.frozen? ⟨b, 9, none⟩ = false := blk_free hblk 9
      have HBL := Hd.mk hblk
      have HRD := Hd.mk hrd
      have HNE := Hd.mk hne
      have HU := Hd.mk hu
      clear hblk hrd hne hu
      have hk64 : T.length / 64 = k := by have := HLX.out; have := HK.out; omega
      have H64 := Hd.mk hk64
      clear hk64
      go_wp2
      go_end0
      refine ⟨rfl, ?_, HU.out.setCell (p := ⟨b, 9, none⟩) rfl _⟩
      rw [HT.out]
      unfold HSa
      rw [H64.out, HX.out]
      refine ⟨_, ?_, HRD.out.upd ((Upd.refl (fun x => x = b) wr).setCell (p := ⟨b, 9, none⟩) rfl _) (fun k hk he => HNE.out (by rw [hk, he])), HNE.out⟩
      rw [blk_set HBL.out]
      rfl
end Go.Proofs.Ytkdakmddlkgjkaa
