import Derived.Outline
import Derived.Test.YtkdakmddlkgjkaaDk3
open Go.RowKit Go.Lib
namespace Go.Proofs.Ytkdakmddlkgjkaa
set_option maxRecDepth 100000
/-- A field is written. -/
theorem DiskAt.field {w : World} {b : Nat} {lv wv : Value} {m : Nat} {D D' : Ds} {F : Nat → Prop} (h : DiskAt w b lv wv m D F) (j : Nat) (v : Value) (hL : D'.L = D.L) (hW : D'.W = D.W) (ho : D'.gh = D.gh) (hok : D'.ok)
    (hc : (dcells lv wv m D).setIfInBounds j v = dcells lv wv m D') : DiskAt (w.setCell ⟨b, j, none⟩ v) b lv wv m D' F :=
  ⟨by rw [blk_set h.blk, hc], by rw [hL]; exact Own.setCell h.ls _ _ h.lb, by rw [hW]; exact Own.setCell h.ws _ _ h.wb, by rw [hW]; exact by rw [ho]; exact h.mp.keep (Below.heap_setCell _ _ _ _ h.mne.1), h.lb, h.wb, h.lw, h.fb, h.fm, h.fl, h.fw, fun k hk => by have := h.lt k hk; simpa [World.setCell] using this, hok⟩
theorem dcells_0 (lv wv : Value) (m : Nat) (D : Ds) : dcells lv wv m D = #[lv, wv, .map (some m), .bool D.off, .int .i64 (D.ops : Int), .bool D.on, .int .i64 (D.aft : Int), .int .u64 (D.mask : Int)] := rfl
theorem start_c {w : World} {b : Nat} {D : Ds} {F : Nat → Prop} (h : IsDisk w b D F) :
    Calls Try.prog 36 #[.pointer (some ⟨b, 0, none⟩)] w fun e w' => e = .returned (.tuple #[]) ∧ IsDisk w' b D.start F ∧ Upd F w w' := by
  obtain ⟨lv, wv, m, h⟩ := h
  have c2 : w.cell? ⟨b, 2, none⟩ = some (.map (some m)) := blk_cell h.blk 2
  have c3 : w.cell? ⟨b, 3, none⟩ = some (.bool D.off) := blk_cell h.blk 3
  have f3 : w.frozen? ⟨b, 3, none⟩ = false := blk_free h.blk 3
  have H := Hd.mk h
  clear h
  go_enter Try.func36, Try.ntmps36
  go_wp2_with fail
  refine (dthere_c m c2).mono ?_
  rintro e w' ⟨rfl, rfl⟩
  go_wp2
  go_end0
  have ok := H.out.ok
  exact ⟨rfl, ⟨lv, wv, m, H.out.field 3 _ rfl rfl rfl ⟨ok.lo, ok.hi, ok.l64, ok.w64, ok.wops, ok.opb, ok.ghb, ok.aft, ok.mask⟩ rfl⟩, (Upd.refl F w).setCell (p := ⟨b, 3, none⟩) H.out.fb _⟩
theorem fail_c {w : World} {b : Nat} {D : Ds} {F : Nat → Prop} (h : IsDisk w b D F) (mask : Nat) :
    Calls Try.prog 34 #[.pointer (some ⟨b, 0, none⟩), .int .u64 (mask : Int)] w fun e w' => e = .returned (.tuple #[]) ∧ IsDisk w' b (D.fail mask) F ∧ Upd F w w' := by
  have hI := h
  obtain ⟨lv, wv, m, h⟩ := h
  have c2 : w.cell? ⟨b, 2, none⟩ = some (.map (some m)) := blk_cell h.blk 2
  have c3 : w.cell? ⟨b, 3, none⟩ = some (.bool D.off) := blk_cell h.blk 3
  have hbl := blk_lt h.blk
  have HB := Hd.mk h.blk
  have HI := Hd.mk hI
  clear h hI
  unfold Ds.fail
  cases ho : D.off with
  | true =>
    rw [ho] at c3
    rw [if_pos rfl]
    clear ho
    go_enter Try.func34, Try.ntmps34
    go_wp2_with fail
    refine (dthere_c m (blk_cell (blk_alloc HB.out _) 2)).mono ?_
    rintro e w' ⟨rfl, rfl⟩
    go_wp2_with fail
    refine bodyPost_ret (results_none (by rfl) _ _ _) rfl ?_
    have hb := (Below.refl w.heap.size w).alloc (Nat.le_refl _) (.cells #[.int .u64 (mask : Int)] 57)
    exact ⟨rfl, HI.out.ext hb, Upd.of hb⟩
  | false =>
    rw [ho] at c3
    rw [if_neg (by decide)]
    clear ho
    have hmf : ∀ (fn : Fn) (first cap : Array Value) (w : World), (Instr.makeFunc fn first cap).run Try.prog w = .ok (.func fn first cap) w := fun _ _ _ _ => rfl
    go_enter Try.func34, Try.ntmps34
    go_wp2_with fail
    refine (dthere_c m (blk_cell (blk_alloc HB.out _) 2)).mono ?_
    rintro e w' ⟨rfl, rfl⟩
    go_wp2_with fail
    have hb := (Below.refl w.heap.size w).alloc (Nat.le_refl _) (.cells #[.int .u64 (mask : Int)] 57)
    refine (settle_bit (HI.out.ext hb) w.heap.size mask ⟨blk_cell (blk_new _ _ _ _ _ rfl) 0, fun hF => Nat.lt_irrefl _ (HI.out.lt _ hF), by rw [sz_alloc]; omega⟩).mono ?_
    rintro e w2 ⟨rfl, h2, hu⟩
    have HU : Hd (Upd F w w2) := ⟨(Upd.of hb).trans hu⟩
    obtain ⟨lv2, wv2, m2, h2⟩ := h2
    have c3' : w2.cell? ⟨b, 3, none⟩ = some (.bool D.off) := blk_cell h2.blk 3
    have f3' : w2.frozen? ⟨b, 3, none⟩ = false := blk_free h2.blk 3
    have H2 := Hd.mk h2
    clear h2 hu hb hmf c2 c3 hbl
    go_wp2_with fail
    go_end0
    have ok := H2.out.ok
    exact ⟨rfl, ⟨lv2, wv2, m2, H2.out.field 3 _ rfl rfl rfl ⟨ok.lo, ok.hi, ok.l64, ok.w64, ok.wops, ok.opb, ok.ghb, ok.aft, ok.mask⟩ rfl⟩, HU.out.setCell (p := ⟨b, 3, none⟩) H2.out.fb _⟩
/-- an operation is counted -/
theorem cut_c {w : World} {b : Nat} {D : Ds} {F : Nat → Prop} (h : IsDisk w b D F) (hops : D.ops + 1 < 1000000000) :
    Calls Try.prog 60 #[.pointer (some ⟨b, 0, none⟩)] w fun e w' => e = .returned (.bool D.cut.1) ∧ IsDisk w' b D.cut.2 F ∧ Upd F w w' := by
  obtain ⟨lv, wv, m, h⟩ := h
  have c4 : w.cell? ⟨b, 4, none⟩ = some (.int .i64 (D.ops : Int)) := blk_cell h.blk 4
  have f4 : w.frozen? ⟨b, 4, none⟩ = false := blk_free h.blk 4
  have c5 : w.cell? ⟨b, 5, none⟩ = some (.bool D.on) := blk_cell h.blk 5
  have f5 : w.frozen? ⟨b, 5, none⟩ = false := blk_free h.blk 5
  have c6 : w.cell? ⟨b, 6, none⟩ = some (.int .i64 (D.aft : Int)) := blk_cell h.blk 6
  have f6 : w.frozen? ⟨b, 6, none⟩ = false := blk_free h.blk 6
  have c7 : w.cell? ⟨b, 7, none⟩ = some (.int .u64 (D.mask : Int)) := blk_cell h.blk 7
  have haft := h.ok.aft
  have H := Hd.mk h
  clear h
  unfold Ds.cut
  have ok := H.out.ok
  have hw := ok.wops
  by_cases hon : D.on = true
  case neg =>
    have hon2 : D.on = false := by simpa using hon
    rw [hon2] at c5
    clear hon2
    have OK := Hd.mk ok
    have HW := Hd.mk hw
    clear ok hw
    rw [if_neg hon]
    have HON := Hd.mk hon
    clear hon
    go_enter Try.func60, Try.ntmps60
    go_wp2_with fail
    go_ret
    have ok := OK.out
    have hw := HW.out
    exact ⟨rfl, ⟨lv, wv, m, H.out.field 4 _ rfl rfl rfl ⟨ok.lo, ok.hi, ok.l64, ok.w64, ok.wops, hops, ok.ghb, ok.aft, ok.mask⟩ rfl⟩, (Upd.refl F w).setCell (p := ⟨b, 4, none⟩) H.out.fb _⟩
  case pos =>
    rw [hon] at c5
    rw [if_pos hon]
    have ok1 : ({ D with ops := D.ops + 1 } : Ds).ok := ⟨ok.lo, ok.hi, ok.l64, ok.w64, ok.wops, hops, ok.ghb, ok.aft, ok.mask⟩
    have OK1 := Hd.mk ok1
    have HON := Hd.mk hon
    clear ok hw ok1 hon
    by_cases ha : 0 < D.aft
    · have e1 : ((D.aft : Int) - 1) = ((D.aft - 1 : Nat) : Int) := by omega
      rw [if_pos ha]
      have E1 := Hd.mk e1
      clear e1
      go_enter Try.func60, Try.ntmps60
      go_wp2_with fail
      go_ret
      have ok := OK1.out
      have h1 := H.out.field (D' := { D with ops := D.ops + 1 }) 4 (.int .i64 ((D.ops : Int) + 1)) rfl rfl rfl ok rfl
      have h2 := h1.field (D' := { D with ops := D.ops + 1, aft := D.aft - 1 }) 6 (.int .i64 ((D.aft : Int) - 1)) rfl rfl rfl ⟨ok.lo, ok.hi, ok.l64, ok.w64, ok.wops, ok.opb, ok.ghb, by show D.aft - 1 < _; omega, ok.mask⟩ (by rw [E1.out]; rfl)
      exact ⟨rfl, ⟨lv, wv, m, h2⟩, ((Upd.refl F w).setCell (p := ⟨b, 4, none⟩) H.out.fb _).setCell (p := ⟨b, 6, none⟩) H.out.fb _⟩
    · rw [if_neg ha]
      have ha0 : D.aft = 0 := by omega
      rw [ha0] at c6
      have HA := Hd.mk ha0
      clear ha ha0 haft
      go_enter Try.func60, Try.ntmps60
      go_wp2_with fail
      have ok := OK1.out
      have h1 := H.out.field (D' := { D with ops := D.ops + 1 }) 4 (.int .i64 ((D.ops : Int) + 1)) rfl rfl rfl ok rfl
      have h2 := h1.field (D' := { D with ops := D.ops + 1, on := false }) 5 (.bool false) rfl rfl rfl ⟨ok.lo, ok.hi, ok.l64, ok.w64, ok.wops, ok.opb, ok.ghb, ok.aft, ok.mask⟩ rfl
      refine (fail_c ⟨lv, wv, m, h2⟩ D.mask).mono ?_
      rintro e w2 ⟨rfl, g1, g2⟩
      have G : Hd (IsDisk w2 b (({ D with ops := D.ops + 1, on := false } : Ds).fail D.mask) F ∧ Upd F w w2) := ⟨g1, (((Upd.refl F w).setCell (p := ⟨b, 4, none⟩) H.out.fb _).setCell (p := ⟨b, 5, none⟩) H.out.fb _).trans g2⟩
      clear g1 g2 h1 h2 ok
      go_wp2_with fail
      go_ret
      exact ⟨rfl, G.out⟩
/-- a failure is planned -/
theorem plan_c {w : World} {b : Nat} {D : Ds} {F : Nat → Prop} (h : IsDisk w b D F) (k mask : Nat) (hk : k < 9223372036854775808) (hm : mask < 18446744073709551616) :
    Calls Try.prog 32 #[.pointer (some ⟨b, 0, none⟩), .int .i64 (k : Int), .int .u64 (mask : Int)] w fun e w' => e = .returned (.int .i64 0) ∧ IsDisk w' b (D.plan k mask) F ∧ Upd F w w' := by
  obtain ⟨lv, wv, m, h⟩ := h
  have c2 : w.cell? ⟨b, 2, none⟩ = some (.map (some m)) := blk_cell h.blk 2
  have c5 : w.cell? ⟨b, 5, none⟩ = some (.bool D.on) := blk_cell h.blk 5
  have f5 : w.frozen? ⟨b, 5, none⟩ = false := blk_free h.blk 5
  have c6 : w.cell? ⟨b, 6, none⟩ = some (.int .i64 (D.aft : Int)) := blk_cell h.blk 6
  have f6 : w.frozen? ⟨b, 6, none⟩ = false := blk_free h.blk 6
  have c7 : w.cell? ⟨b, 7, none⟩ = some (.int .u64 (D.mask : Int)) := blk_cell h.blk 7
  have f7 : w.frozen? ⟨b, 7, none⟩ = false := blk_free h.blk 7
  have H := Hd.mk h
  clear h
  go_enter Try.func32, Try.ntmps32
  go_wp2_with fail
  refine (dthere_c m c2).mono ?_
  rintro e w' ⟨rfl, rfl⟩
  go_wp2_with fail
  go_ret
  have ok := H.out.ok
  have h1 := H.out.field (D' := { D with on := true }) 5 (.bool true) rfl rfl rfl ⟨ok.lo, ok.hi, ok.l64, ok.w64, ok.wops, ok.opb, ok.ghb, ok.aft, ok.mask⟩ rfl
  have h2 := h1.field (D' := { D with on := true, aft := k }) 6 (.int .i64 (k : Int)) rfl rfl rfl ⟨ok.lo, ok.hi, ok.l64, ok.w64, ok.wops, ok.opb, ok.ghb, hk, ok.mask⟩ rfl
  have h3 := h2.field (D' := D.plan k mask) 7 (.int .u64 (mask : Int)) rfl rfl rfl ⟨ok.lo, ok.hi, ok.l64, ok.w64, ok.wops, ok.opb, ok.ghb, hk, hm⟩ rfl
  exact ⟨rfl, ⟨lv, wv, m, h3⟩, (((Upd.refl F w).setCell (p := ⟨b, 5, none⟩) H.out.fb _).setCell (p := ⟨b, 6, none⟩) H.out.fb _).setCell (p := ⟨b, 7, none⟩) H.out.fb _⟩
end Go.Proofs.Ytkdakmddlkgjkaa
