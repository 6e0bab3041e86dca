/- What is proved here, of the given program: The archive: Open. -/
import Derived.Test.YtaendhbiehknlaaGreatDoorU36
set_option linter.unusedVariables false
set_option linter.unusedSimpArgs false
set_option linter.constructorNameAsVariable false
namespace Go.Proofs.YtaendhbiehknlaaGreatDoor
open Go.RowKit Go.Shelf Go.Proofs

abbrev P3 (w1 : World) (b : Nat) (x y z : Value) (w' : World) : Prop := w'.cell? ⟨b, 0, none⟩ = some x ∧ w'.cell? ⟨b, 1, none⟩ = some y ∧ w'.cell? ⟨b, 2, none⟩ = some z ∧ Pu w1 w'
theorem P3.pu {w1 : World} {b : Nat} {x y z : Value} {w w' : World} (hp : Pu w w') (h : P3 w1 b x y z w) : P3 w1 b x y z w' := by
  obtain ⟨h0, h1, h2, h3⟩ := h
  have hl : b < w.heap.size := World.block_lt_of_cell? w _ h0
  exact ⟨(hp.pcell b _ hl).trans h0, (hp.pcell b _ hl).trans h1, (hp.pcell b _ hl).trans h2, h3.pu hp⟩
theorem P3.drew {w1 : World} {b : Nat} {x y z : Value} {w : World} (h : P3 w1 b x y z w) : P3 w1 b x y z w.drew := P3.pu ((Fr.refl No w).drew) h
theorem P3.alloc {w1 : World} {b : Nat} {x y z : Value} {w : World} (o : Obj) (h : P3 w1 b x y z w) : P3 w1 b x y z (w.alloc o) := P3.pu ((Fr.refl No w).alloc o) h
theorem block3 {W : World} {g : Nat} {a b c : Value} {t : TypeId} (h : W.heap[g]? = some (.cells #[a, b, c] t (0, 0))) :
    W.cell? ⟨g, 0, none⟩ = some a ∧ W.cell? ⟨g, 1, none⟩ = some b ∧ W.cell? ⟨g, 2, none⟩ = some c ∧ (∀ i, W.frozen? ⟨g, i, none⟩ = false) := by
  refine ⟨?_, ?_, ?_, fun i => by simp [World.frozen?, h]⟩ <;> (rw [cell_of_row _ _ _ _ _ _ h]; rfl)
theorem set2of3 {W : World} {g : Nat} {a b c : Value} {t : TypeId} (v : Value) (h : W.heap[g]? = some (.cells #[a, b, c] t (0, 0))) : (W.setCell ⟨g, 2, none⟩ v).heap[g]? = some (.cells #[a, b, v] t (0, 0)) := by
  simp only [World.setCell, Array.getElem?_modify, if_pos, h, Option.map_some]
  rfl
set_option maxRecDepth 100000 in
set_option maxHeartbeats 2000000 in
theorem archOpenNil (per keep : Int) (A : Option Addr) (c : Nat) (name : Bytes) (S : Nat → Prop) (w : World) (hv : Bs S w (.slice A name.length c) name) (hn : name.length ≤ 1000) :
    Calls Tryz.prog 10 #[.pointer none, .agg #[.int .i64 per, .int .i64 keep, .slice A name.length c]] w fun en w' => ∃ v, en = .returned (.tuple #[.pointer none, v]) ∧ ErrIs w' v [(archT, 0)] 1 ∧ Pu w w' := by
  have hmm := @run_makeMap Tryz.prog
  have Hv := Lib.hid hv
  clear hv
  go_enter Tryz.func10, Tryz.ntmps10
  go_wp2_with fail
  have hp0 : Pu w (w.alloc (.cells #[.int .i64 per, .int .i64 keep, .slice A name.length c] 25)) := (Fr.refl _ _).alloc _
  have hb0 := heap_alloc_new w (.cells #[.int .i64 per, .int .i64 keep, .slice A name.length c] 25)
  generalize w.alloc (.cells #[.int .i64 per, .int .i64 keep, .slice A name.length c] 25) = w0 at *
  refine (cloneBytes _ name S w0 (Hv.out.pu hp0) (by omega)).mono ?_
  rintro en w1 ⟨v1, rfl, ho1, hp1⟩
  obtain ⟨A1, c1, rfl, -, -⟩ := own_shape2 ho1
  have Hb1 := Lib.hid ((hp1.block _ (blk_lt hb0) (fun h => h)).trans hb0)
  have Hp1 := Lib.hid (hp0.pu hp1)
  clear hp0 hb0 hp1 ho1
  obtain ⟨y0, y1, y2, yf⟩ := block3 Hb1.out
  have hyl := blk_lt Hb1.out
  go_wp2_with fail
  have hfs : Fr (At w.heap.size) w1 (w1.setCell ⟨w.heap.size, 2, none⟩ (.slice A1 name.length c1)) := (Fr.refl _ _).set _ _ (fun _ => rfl)
  have hb2 := set2of3 (.slice A1 name.length c1) Hb1.out
  generalize w1.setCell ⟨w.heap.size, 2, none⟩ (.slice A1 name.length c1) = w2 at *
  have Hp2 := Lib.hid (Fr.new Hp1.out hfs (Nat.le_refl _))
  have hyl2 := blk_lt hb2
  clear y0 y1 y2 yf
  obtain ⟨y0, y1, y2, yf⟩ := block3 hb2
  have hL : P3 w2 w.heap.size (.int .i64 per) (.int .i64 keep) (.slice A1 name.length c1) w2 := ⟨y0, y1, y2, Fr.refl _ _⟩
  clear hfs hb2 Hb1 Hp1 hyl yf
  go_region_held3 (fun w' => w'.cell? ⟨w.heap.size, 0, none⟩ = some (.int .i64 per) ∧ w'.cell? ⟨w.heap.size, 1, none⟩ = some (.int .i64 keep) ∧ w'.cell? ⟨w.heap.size, 2, none⟩ = some (.slice A1 name.length c1) ∧ Pu w2 w')
    (first | with_reducible exact hL | with_reducible exact hk | with_reducible exact P3.drew hL | with_reducible exact P3.drew (P3.alloc _ hL) | with_reducible exact P3.alloc _ (by assumption) | with_reducible exact P3.drew (by assumption) | with_reducible exact P3.drew (P3.alloc _ (by assumption)))
    (first
      | (go_at_call 34; refine (dueNewNil _).mono ?_; rintro e w3 ⟨dq, rfl, hdq3, hsd3, hp3⟩; have hk := P3.pu (w1 := w2) (b := w.heap.size) (x := .int .i64 per) (y := .int .i64 keep) (z := .slice A1 name.length c1) hp3 (by assumption); have Hdq3 := Lib.hid hdq3; have Hp3 := Lib.hid hp3; clear hdq3 hp3))
  all_goals
    rename_i hHeld
    obtain ⟨z0, z1, z2, hpw⟩ := hHeld
    clear hL y0 y1 y2 hk
  all_goals
    first
      | (have HPW := Lib.hid (Hp2.out.pu (show Pu w2 (w3.alloc (.cells #[.int .i64 per, .int .i64 keep, .slice A1 name.length c1, .pointer none, .pointer none, .pointer none, .int .i64 0, .map (some w2.heap.size), .pointer none, .pointer (some ⟨dq, 0, none⟩)] 101)) from by with_reducible exact hpw)); clear hpw; have HA0 := heap_alloc_new w3 (.cells #[.int .i64 per, .int .i64 keep, .slice A1 name.length c1, .pointer none, .pointer none, .pointer none, .int .i64 0, .map (some w2.heap.size), .pointer none, .pointer (some ⟨dq, 0, none⟩)] 101); have HQ := Lib.hid (Hdq3.out.pu ((Fr.refl _ w3).alloc (.cells #[.int .i64 per, .int .i64 keep, .slice A1 name.length c1, .pointer none, .pointer none, .pointer none, .int .i64 0, .map (some w2.heap.size), .pointer none, .pointer (some ⟨dq, 0, none⟩)] 101))); generalize hW : w3.alloc (.cells #[.int .i64 per, .int .i64 keep, .slice A1 name.length c1, .pointer none, .pointer none, .pointer none, .int .i64 0, .map (some w2.heap.size), .pointer none, .pointer (some ⟨dq, 0, none⟩)] 101) = W at *; have hgs : w.heap.size ≤ w3.heap.size := Nat.le_trans Hp2.out.size (Nat.le_trans (by simp) Hp3.out.size); have HA := Lib.hid (show ArchAt W w3.heap.size per keep A1 name.length c1 none none none (some w2.heap.size) none (some ⟨dq, 0, none⟩) from HA0); generalize w3.heap.size = g at *; generalize (some w2.heap.size) = mp at *; clear hW Hp3 Hdq3 hsd3 HA0)
      | (have HPW := Lib.hid (Hp2.out.pu (show Pu w2 ((w3.alloc (Obj.map #[] 0)).alloc (.cells #[.int .i64 per, .int .i64 keep, .slice A1 name.length c1, .pointer none, .pointer none, .pointer none, .int .i64 0, .map (some w3.heap.size), .pointer none, .pointer (some ⟨dq, 0, none⟩)] 101)) from by with_reducible exact hpw)); clear hpw; have HA0 := heap_alloc_new (w3.alloc (Obj.map #[] 0)) (.cells #[.int .i64 per, .int .i64 keep, .slice A1 name.length c1, .pointer none, .pointer none, .pointer none, .int .i64 0, .map (some w3.heap.size), .pointer none, .pointer (some ⟨dq, 0, none⟩)] 101); have HQ := Lib.hid (Hdq3.out.pu (((Fr.refl _ w3).alloc (Obj.map #[] 0)).alloc (.cells #[.int .i64 per, .int .i64 keep, .slice A1 name.length c1, .pointer none, .pointer none, .pointer none, .int .i64 0, .map (some w3.heap.size), .pointer none, .pointer (some ⟨dq, 0, none⟩)] 101))); generalize hW : (w3.alloc (Obj.map #[] 0)).alloc (.cells #[.int .i64 per, .int .i64 keep, .slice A1 name.length c1, .pointer none, .pointer none, .pointer none, .int .i64 0, .map (some w3.heap.size), .pointer none, .pointer (some ⟨dq, 0, none⟩)] 101) = W at *; rw [show (w3.alloc (Obj.map #[] 0)).heap.size = w3.heap.size + 1 by simp] at HA0; have hgs : w.heap.size ≤ w3.heap.size + 1 := Nat.le_succ_of_le (Nat.le_trans Hp2.out.size Hp3.out.size); have HA := Lib.hid (show ArchAt W (w3.heap.size + 1) per keep A1 name.length c1 none none none (some w3.heap.size) none (some ⟨dq, 0, none⟩) from HA0); generalize w3.heap.size + 1 = g at *; generalize (some w3.heap.size) = mp at *; clear hW Hp3 Hdq3 hsd3 HA0)
    have hgl := blk_lt HA.out
    obtain ⟨x0, x1, x2, x3, x4, x5, x6, x8, x9, xf⟩ := arch_cells HA.out
    go_wp2_with fail
    refine (archFail g 0 1 W x6 (by decide)).mono ?_
    rintro en w4 ⟨v, rfl, he, hp⟩
    go_wp2
    go_ret2
    exact ⟨v, rfl, he, HPW.out.pu hp⟩
set_option maxRecDepth 100000 in
set_option maxHeartbeats 2000000 in
theorem archOpenPol (gd : Nat) (per keep : Int) (A : Option Addr) (c : Nat) (name : Bytes) (S : Nat → Prop) (w : World) (hv : Bs S w (.slice A name.length c) name) (hn : name.length ≤ 1000) (hpol : polRight per keep name.length = false) :
    Calls Tryz.prog 10 #[.pointer (some ⟨gd, 0, none⟩), .agg #[.int .i64 per, .int .i64 keep, .slice A name.length c]] w fun en w' => ∃ v, en = .returned (.tuple #[.pointer none, v]) ∧ ErrIs w' v [(archT, 0)] 2 ∧ Pu w w' := by
  have Hpol := Lib.hid hpol
  clear hpol
  have hmm := @run_makeMap Tryz.prog
  have Hv := Lib.hid hv
  clear hv
  go_enter Tryz.func10, Tryz.ntmps10
  go_wp2_with fail
  have hp0 : Pu w (w.alloc (.cells #[.int .i64 per, .int .i64 keep, .slice A name.length c] 25)) := (Fr.refl _ _).alloc _
  have hb0 := heap_alloc_new w (.cells #[.int .i64 per, .int .i64 keep, .slice A name.length c] 25)
  generalize w.alloc (.cells #[.int .i64 per, .int .i64 keep, .slice A name.length c] 25) = w0 at *
  refine (cloneBytes _ name S w0 (Hv.out.pu hp0) (by omega)).mono ?_
  rintro en w1 ⟨v1, rfl, ho1, hp1⟩
  obtain ⟨A1, c1, rfl, -, -⟩ := own_shape2 ho1
  have Hb1 := Lib.hid ((hp1.block _ (blk_lt hb0) (fun h => h)).trans hb0)
  have Hp1 := Lib.hid (hp0.pu hp1)
  clear hp0 hb0 hp1 ho1
  obtain ⟨y0, y1, y2, yf⟩ := block3 Hb1.out
  have hyl := blk_lt Hb1.out
  go_wp2_with fail
  have hfs : Fr (At w.heap.size) w1 (w1.setCell ⟨w.heap.size, 2, none⟩ (.slice A1 name.length c1)) := (Fr.refl _ _).set _ _ (fun _ => rfl)
  have hb2 := set2of3 (.slice A1 name.length c1) Hb1.out
  generalize w1.setCell ⟨w.heap.size, 2, none⟩ (.slice A1 name.length c1) = w2 at *
  have Hp2 := Lib.hid (Fr.new Hp1.out hfs (Nat.le_refl _))
  have hyl2 := blk_lt hb2
  clear y0 y1 y2 yf
  obtain ⟨y0, y1, y2, yf⟩ := block3 hb2
  have hL : P3 w2 w.heap.size (.int .i64 per) (.int .i64 keep) (.slice A1 name.length c1) w2 := ⟨y0, y1, y2, Fr.refl _ _⟩
  clear hfs hb2 Hb1 Hp1 hyl yf
  go_region_held3 (fun w' => w'.cell? ⟨w.heap.size, 0, none⟩ = some (.int .i64 per) ∧ w'.cell? ⟨w.heap.size, 1, none⟩ = some (.int .i64 keep) ∧ w'.cell? ⟨w.heap.size, 2, none⟩ = some (.slice A1 name.length c1) ∧ Pu w2 w')
    (first | with_reducible exact hL | with_reducible exact hk | with_reducible exact P3.drew hL | with_reducible exact P3.drew (P3.alloc _ hL) | with_reducible exact P3.alloc _ (by assumption) | with_reducible exact P3.drew (by assumption) | with_reducible exact P3.drew (P3.alloc _ (by assumption)))
    (first
      | (go_at_call 34; refine (dueNewNil _).mono ?_; rintro e w3 ⟨dq, rfl, hdq3, hsd3, hp3⟩; have hk := P3.pu (w1 := w2) (b := w.heap.size) (x := .int .i64 per) (y := .int .i64 keep) (z := .slice A1 name.length c1) hp3 (by assumption); have Hdq3 := Lib.hid hdq3; have Hp3 := Lib.hid hp3; clear hdq3 hp3))
  all_goals
    rename_i hHeld
    obtain ⟨z0, z1, z2, hpw⟩ := hHeld
    clear hL y0 y1 y2 hk
  all_goals
    first
      | (have HPW := Lib.hid (Hp2.out.pu (show Pu w2 (w3.alloc (.cells #[.int .i64 per, .int .i64 keep, .slice A1 name.length c1, .pointer none, .pointer none, .pointer none, .int .i64 0, .map (some w2.heap.size), .pointer none, .pointer (some ⟨dq, 0, none⟩)] 101)) from by with_reducible exact hpw)); clear hpw; have HA0 := heap_alloc_new w3 (.cells #[.int .i64 per, .int .i64 keep, .slice A1 name.length c1, .pointer none, .pointer none, .pointer none, .int .i64 0, .map (some w2.heap.size), .pointer none, .pointer (some ⟨dq, 0, none⟩)] 101); have HQ := Lib.hid (Hdq3.out.pu ((Fr.refl _ w3).alloc (.cells #[.int .i64 per, .int .i64 keep, .slice A1 name.length c1, .pointer none, .pointer none, .pointer none, .int .i64 0, .map (some w2.heap.size), .pointer none, .pointer (some ⟨dq, 0, none⟩)] 101))); generalize hW : w3.alloc (.cells #[.int .i64 per, .int .i64 keep, .slice A1 name.length c1, .pointer none, .pointer none, .pointer none, .int .i64 0, .map (some w2.heap.size), .pointer none, .pointer (some ⟨dq, 0, none⟩)] 101) = W at *; have hgs : w.heap.size ≤ w3.heap.size := Nat.le_trans Hp2.out.size (Nat.le_trans (by simp) Hp3.out.size); have HA := Lib.hid (show ArchAt W w3.heap.size per keep A1 name.length c1 none none none (some w2.heap.size) none (some ⟨dq, 0, none⟩) from HA0); generalize w3.heap.size = g at *; generalize (some w2.heap.size) = mp at *; clear hW Hp3 Hdq3 hsd3 HA0)
      | (have HPW := Lib.hid (Hp2.out.pu (show Pu w2 ((w3.alloc (Obj.map #[] 0)).alloc (.cells #[.int .i64 per, .int .i64 keep, .slice A1 name.length c1, .pointer none, .pointer none, .pointer none, .int .i64 0, .map (some w3.heap.size), .pointer none, .pointer (some ⟨dq, 0, none⟩)] 101)) from by with_reducible exact hpw)); clear hpw; have HA0 := heap_alloc_new (w3.alloc (Obj.map #[] 0)) (.cells #[.int .i64 per, .int .i64 keep, .slice A1 name.length c1, .pointer none, .pointer none, .pointer none, .int .i64 0, .map (some w3.heap.size), .pointer none, .pointer (some ⟨dq, 0, none⟩)] 101); have HQ := Lib.hid (Hdq3.out.pu (((Fr.refl _ w3).alloc (Obj.map #[] 0)).alloc (.cells #[.int .i64 per, .int .i64 keep, .slice A1 name.length c1, .pointer none, .pointer none, .pointer none, .int .i64 0, .map (some w3.heap.size), .pointer none, .pointer (some ⟨dq, 0, none⟩)] 101))); generalize hW : (w3.alloc (Obj.map #[] 0)).alloc (.cells #[.int .i64 per, .int .i64 keep, .slice A1 name.length c1, .pointer none, .pointer none, .pointer none, .int .i64 0, .map (some w3.heap.size), .pointer none, .pointer (some ⟨dq, 0, none⟩)] 101) = W at *; rw [show (w3.alloc (Obj.map #[] 0)).heap.size = w3.heap.size + 1 by simp] at HA0; have hgs : w.heap.size ≤ w3.heap.size + 1 := Nat.le_succ_of_le (Nat.le_trans Hp2.out.size Hp3.out.size); have HA := Lib.hid (show ArchAt W (w3.heap.size + 1) per keep A1 name.length c1 none none none (some w3.heap.size) none (some ⟨dq, 0, none⟩) from HA0); generalize w3.heap.size + 1 = g at *; generalize (some w3.heap.size) = mp at *; clear hW Hp3 Hdq3 hsd3 HA0)
    have hgl := blk_lt HA.out
    obtain ⟨x0, x1, x2, x3, x4, x5, x6, x8, x9, xf⟩ := arch_cells HA.out
    go_wp2_with fail
    refine (archRight per keep A1 name.length c1 W).mono ?_
    rintro en w4 ⟨rfl, hp4⟩
    rw [Hpol.out]
    have x6' := (hp4.pcell g 6 hgl).trans x6
    go_wp2_with fail
    refine (archFail g 0 2 w4 x6' (by decide)).mono ?_
    rintro en w5 ⟨v, rfl, he, hp⟩
    go_wp2
    go_ret2
    exact ⟨v, rfl, he, (HPW.out.pu hp4).pu hp⟩
set_option maxRecDepth 100000 in
set_option maxHeartbeats 2000000 in
theorem archOpenLoadNo (gd : Nat) (l : List (Bytes × Int)) (e : Int) (per keep : Int) (A : Option Addr) (c : Nat) (name : Bytes) (S : Nat → Prop) (w : World) (hv : Bs S w (.slice A name.length c) name) (hn : name.length ≤ 1000) (hpol : polRight per keep name.length = true) (C : ∀ W, Pu w W → Calls Tryz.prog 133 #[.pointer (some ⟨gd, 0, none⟩)] W fun en w' => ∃ v, en = .returned (.tuple #[Sup0, v]) ∧ ErrIs w' v l e ∧ Pu W w') :
    Calls Tryz.prog 10 #[.pointer (some ⟨gd, 0, none⟩), .agg #[.int .i64 per, .int .i64 keep, .slice A name.length c]] w fun en w' => ∃ v, en = .returned (.tuple #[.pointer none, v]) ∧ ErrIs w' v ((archT, 0) :: l) e ∧ Pu w w' := by
  have Hpol := Lib.hid hpol
  have HC := Lib.hid C
  clear hpol C
  have hmm := @run_makeMap Tryz.prog
  have Hv := Lib.hid hv
  clear hv
  go_enter Tryz.func10, Tryz.ntmps10
  go_wp2_with fail
  have hp0 : Pu w (w.alloc (.cells #[.int .i64 per, .int .i64 keep, .slice A name.length c] 25)) := (Fr.refl _ _).alloc _
  have hb0 := heap_alloc_new w (.cells #[.int .i64 per, .int .i64 keep, .slice A name.length c] 25)
  generalize w.alloc (.cells #[.int .i64 per, .int .i64 keep, .slice A name.length c] 25) = w0 at *
  refine (cloneBytes _ name S w0 (Hv.out.pu hp0) (by omega)).mono ?_
  rintro en w1 ⟨v1, rfl, ho1, hp1⟩
  obtain ⟨A1, c1, rfl, -, -⟩ := own_shape2 ho1
  have Hb1 := Lib.hid ((hp1.block _ (blk_lt hb0) (fun h => h)).trans hb0)
  have Hp1 := Lib.hid (hp0.pu hp1)
  clear hp0 hb0 hp1 ho1
  obtain ⟨y0, y1, y2, yf⟩ := block3 Hb1.out
  have hyl := blk_lt Hb1.out
  go_wp2_with fail
  have hfs : Fr (At w.heap.size) w1 (w1.setCell ⟨w.heap.size, 2, none⟩ (.slice A1 name.length c1)) := (Fr.refl _ _).set _ _ (fun _ => rfl)
  have hb2 := set2of3 (.slice A1 name.length c1) Hb1.out
  generalize w1.setCell ⟨w.heap.size, 2, none⟩ (.slice A1 name.length c1) = w2 at *
  have Hp2 := Lib.hid (Fr.new Hp1.out hfs (Nat.le_refl _))
  have hyl2 := blk_lt hb2
  clear y0 y1 y2 yf
  obtain ⟨y0, y1, y2, yf⟩ := block3 hb2
  have hL : P3 w2 w.heap.size (.int .i64 per) (.int .i64 keep) (.slice A1 name.length c1) w2 := ⟨y0, y1, y2, Fr.refl _ _⟩
  clear hfs hb2 Hb1 Hp1 hyl yf
  go_region_held3 (fun w' => w'.cell? ⟨w.heap.size, 0, none⟩ = some (.int .i64 per) ∧ w'.cell? ⟨w.heap.size, 1, none⟩ = some (.int .i64 keep) ∧ w'.cell? ⟨w.heap.size, 2, none⟩ = some (.slice A1 name.length c1) ∧ Pu w2 w')
    (first | with_reducible exact hL | with_reducible exact hk | with_reducible exact P3.drew hL | with_reducible exact P3.drew (P3.alloc _ hL) | with_reducible exact P3.alloc _ (by assumption) | with_reducible exact P3.drew (by assumption) | with_reducible exact P3.drew (P3.alloc _ (by assumption)))
    (first
      | (go_at_call 34; refine (dueNewNil _).mono ?_; rintro e w3 ⟨dq, rfl, hdq3, hsd3, hp3⟩; have hk := P3.pu (w1 := w2) (b := w.heap.size) (x := .int .i64 per) (y := .int .i64 keep) (z := .slice A1 name.length c1) hp3 (by assumption); have Hdq3 := Lib.hid hdq3; have Hp3 := Lib.hid hp3; clear hdq3 hp3))
  all_goals
    rename_i hHeld
    obtain ⟨z0, z1, z2, hpw⟩ := hHeld
    clear hL y0 y1 y2 hk
  all_goals
    first
      | (have HPW := Lib.hid (Hp2.out.pu (show Pu w2 (w3.alloc (.cells #[.int .i64 per, .int .i64 keep, .slice A1 name.length c1, .pointer none, .pointer none, .pointer none, .int .i64 0, .map (some w2.heap.size), .pointer none, .pointer (some ⟨dq, 0, none⟩)] 101)) from by with_reducible exact hpw)); clear hpw; have HA0 := heap_alloc_new w3 (.cells #[.int .i64 per, .int .i64 keep, .slice A1 name.length c1, .pointer none, .pointer none, .pointer none, .int .i64 0, .map (some w2.heap.size), .pointer none, .pointer (some ⟨dq, 0, none⟩)] 101); have HQ := Lib.hid (Hdq3.out.pu ((Fr.refl _ w3).alloc (.cells #[.int .i64 per, .int .i64 keep, .slice A1 name.length c1, .pointer none, .pointer none, .pointer none, .int .i64 0, .map (some w2.heap.size), .pointer none, .pointer (some ⟨dq, 0, none⟩)] 101))); generalize hW : w3.alloc (.cells #[.int .i64 per, .int .i64 keep, .slice A1 name.length c1, .pointer none, .pointer none, .pointer none, .int .i64 0, .map (some w2.heap.size), .pointer none, .pointer (some ⟨dq, 0, none⟩)] 101) = W at *; have hgs : w.heap.size ≤ w3.heap.size := Nat.le_trans Hp2.out.size (Nat.le_trans (by simp) Hp3.out.size); have HA := Lib.hid (show ArchAt W w3.heap.size per keep A1 name.length c1 none none none (some w2.heap.size) none (some ⟨dq, 0, none⟩) from HA0); generalize w3.heap.size = g at *; generalize (some w2.heap.size) = mp at *; clear hW Hp3 Hdq3 hsd3 HA0)
      | (have HPW := Lib.hid (Hp2.out.pu (show Pu w2 ((w3.alloc (Obj.map #[] 0)).alloc (.cells #[.int .i64 per, .int .i64 keep, .slice A1 name.length c1, .pointer none, .pointer none, .pointer none, .int .i64 0, .map (some w3.heap.size), .pointer none, .pointer (some ⟨dq, 0, none⟩)] 101)) from by with_reducible exact hpw)); clear hpw; have HA0 := heap_alloc_new (w3.alloc (Obj.map #[] 0)) (.cells #[.int .i64 per, .int .i64 keep, .slice A1 name.length c1, .pointer none, .pointer none, .pointer none, .int .i64 0, .map (some w3.heap.size), .pointer none, .pointer (some ⟨dq, 0, none⟩)] 101); have HQ := Lib.hid (Hdq3.out.pu (((Fr.refl _ w3).alloc (Obj.map #[] 0)).alloc (.cells #[.int .i64 per, .int .i64 keep, .slice A1 name.length c1, .pointer none, .pointer none, .pointer none, .int .i64 0, .map (some w3.heap.size), .pointer none, .pointer (some ⟨dq, 0, none⟩)] 101))); generalize hW : (w3.alloc (Obj.map #[] 0)).alloc (.cells #[.int .i64 per, .int .i64 keep, .slice A1 name.length c1, .pointer none, .pointer none, .pointer none, .int .i64 0, .map (some w3.heap.size), .pointer none, .pointer (some ⟨dq, 0, none⟩)] 101) = W at *; rw [show (w3.alloc (Obj.map #[] 0)).heap.size = w3.heap.size + 1 by simp] at HA0; have hgs : w.heap.size ≤ w3.heap.size + 1 := Nat.le_succ_of_le (Nat.le_trans Hp2.out.size Hp3.out.size); have HA := Lib.hid (show ArchAt W (w3.heap.size + 1) per keep A1 name.length c1 none none none (some w3.heap.size) none (some ⟨dq, 0, none⟩) from HA0); generalize w3.heap.size + 1 = g at *; generalize (some w3.heap.size) = mp at *; clear hW Hp3 Hdq3 hsd3 HA0)
    have hgl := blk_lt HA.out
    obtain ⟨x0, x1, x2, x3, x4, x5, x6, x8, x9, xf⟩ := arch_cells HA.out
    go_wp2_with fail
    refine (archRight per keep A1 name.length c1 W).mono ?_
    rintro en w4 ⟨rfl, hp4⟩
    rw [Hpol.out]
    have HP4 := Lib.hid (HPW.out.pu hp4)
    have x6' := (hp4.pcell g 6 hgl).trans x6
    have hgl4 : g < w4.heap.size := Nat.lt_of_lt_of_le hgl hp4.size
    clear hp4 x0 x1 x2 x3 x4 x5 x6 x8 x9 xf z0 z1 z2
    go_wp2_with fail
    refine (archLoadNo g gd e l w4 (fun W hW => HC.out W (HP4.out.pu hW))).mono ?_
    rintro en w5 ⟨v, rfl, he5, hp5⟩
    obtain ⟨tx, ux, rfl⟩ := he5.iface
    have x65 := (hp5.pcell g 6 hgl4).trans x6'
    have He5 := Lib.hid he5
    have HP5 := Lib.hid (HP4.out.pu hp5)
    clear hp5 he5 x6'
    go_wp2_with fail
    refine (archAgain g 0 _ l e w5 x65 He5.out).mono ?_
    rintro en w6 ⟨v, rfl, he, hp⟩
    go_wp2
    go_ret2
    exact ⟨v, rfl, he, HP5.out.pu hp⟩
end Go.Proofs.YtaendhbiehknlaaGreatDoor
