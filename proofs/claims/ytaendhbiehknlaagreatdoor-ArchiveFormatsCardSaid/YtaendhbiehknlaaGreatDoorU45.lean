/- What is proved here, of the given program: The archive: Tick, Now, Texts of a new one. The archive: Deliver of nothing. The archive: Package. -/
import Derived.Test.YtaendhbiehknlaaGreatDoorU44
import Derived.Test.YtaendhbiehknlaaGreatDoorU14
set_option linter.unusedVariables false
set_option linter.unusedSimpArgs false
set_option linter.constructorNameAsVariable false
namespace Go.Proofs.YtaendhbiehknlaaGreatDoor
open Go.RowKit Go.Shelf Go.Proofs

/-- An archive at a time. -/
def ArchT (w : World) (g : Nat) (t : Int) (per keep : Int) (A : Option Addr) (n c : Nat) (lg kt ld : Option Addr) (mp : Option Nat) (dr dq : Option Addr) : Prop :=
  w.heap[g]? = some (.cells #[.int .i64 per, .int .i64 keep, .slice A n c, .pointer lg, .pointer kt, .pointer ld, .int .i64 t, .map mp, .pointer dr, .pointer dq] 101 (0, 0))
section
variable {w : World} {g : Nat} {t per keep : Int} {A : Option Addr} {n c : Nat} {lg kt ld : Option Addr} {mp : Option Nat} {dr dq : Option Addr}
theorem archT_cells (h : ArchT w g t per keep A n c lg kt ld mp dr dq) :
    w.cell? ⟨g, 0, none⟩ = some (.int .i64 per) ∧ w.cell? ⟨g, 1, none⟩ = some (.int .i64 keep) ∧ w.cell? ⟨g, 2, none⟩ = some (.slice A n c) ∧ w.cell? ⟨g, 3, none⟩ = some (.pointer lg) ∧ w.cell? ⟨g, 4, none⟩ = some (.pointer kt) ∧ w.cell? ⟨g, 5, none⟩ = some (.pointer ld) ∧ w.cell? ⟨g, 6, none⟩ = some (.int .i64 t) ∧ w.cell? ⟨g, 8, none⟩ = some (.pointer dr) ∧ w.cell? ⟨g, 9, none⟩ = some (.pointer dq) ∧ ∀ i, w.frozen? ⟨g, i, none⟩ = false := by
  unfold ArchT at h
  refine ⟨?_, ?_, ?_, ?_, ?_, ?_, ?_, ?_, ?_, fun i => by simp [World.frozen?, h]⟩ <;> (rw [cell_of_row _ _ _ _ _ _ h]; rfl)
theorem ArchT.fr {w' : World} {S : Nat → Prop} (h : ArchT w g t per keep A n c lg kt ld mp dr dq) (hf : Fr S w w') (hg : ¬ S g) : ArchT w' g t per keep A n c lg kt ld mp dr dq := (hf.block g (blk_lt h) hg).trans h
theorem ArchT.set6 (t' : Int) (h : ArchT w g t per keep A n c lg kt ld mp dr dq) : ArchT (w.setCell ⟨g, 6, none⟩ (.int .i64 t')) g t' per keep A n c lg kt ld mp dr dq := by
  unfold ArchT at h ⊢
  simp only [World.setCell, Array.getElem?_modify, if_pos, h, Option.map_some]
  rfl
theorem ArchT.set8 (p : Option Addr) (h : ArchT w g t per keep A n c lg kt ld mp dr dq) : ArchT (w.setCell ⟨g, 8, none⟩ (.pointer p)) g t per keep A n c lg kt ld mp p dq := by
  unfold ArchT at h ⊢
  simp only [World.setCell, Array.getElem?_modify, if_pos, h, Option.map_some]
  rfl
theorem archNow (h : ArchT w g t per keep A n c lg kt ld mp dr dq) : Calls Tryz.prog 14 #[.pointer (some ⟨g, 0, none⟩)] w fun e w' => e = .returned (.int .i64 t) ∧ w = w' := by
  obtain ⟨-, -, -, -, -, -, x6, -, -, -⟩ := archT_cells h
  clear h
  go_enter Tryz.func14, Tryz.ntmps14
  go_wp2
  go_ret
  exact ⟨rfl, rfl⟩
theorem archTexts {l : Nat} (h : ArchT w g t per keep A n c (some ⟨l, 0, none⟩) kt ld mp dr dq) (hl : LogNil w l) : Calls Tryz.prog 17 #[.pointer (some ⟨g, 0, none⟩)] w fun e w' => e = .returned (.slice none 0 0) ∧ w = w' := by
  obtain ⟨-, -, -, x3, -, -, -, -, -, -⟩ := archT_cells h
  have Hl := Lib.hid hl
  clear h hl
  go_enter Tryz.func17, Tryz.ntmps17
  go_wp2_with fail
  refine (logTextsNil l w Hl.out).mono ?_
  rintro e w' ⟨rfl, rfl⟩
  go_wp2
  go_ret
  exact ⟨rfl, rfl⟩
set_option maxRecDepth 100000 in
theorem archTick {q : Nat} (h : ArchT w g 0 per keep A n c lg kt ld mp dr (some ⟨q, 0, none⟩)) (hq : DueNil w q) (hne : g ≠ q) : Calls Tryz.prog 16 #[.pointer (some ⟨g, 0, none⟩), .int .i64 7] w fun e w' => e = .returned .nilIface ∧ ArchT w' g 7 per keep A n c lg kt ld mp dr (some ⟨q, 0, none⟩) ∧ Fr (At g) w w' := by
  obtain ⟨-, -, -, -, -, -, x6, -, x9, xf⟩ := archT_cells h
  have hgl := blk_lt h
  have Hq := Lib.hid hq
  have Ha := Lib.hid h
  clear h hq
  go_enter Tryz.func16, Tryz.ntmps16
  go_wp2_with fail
  have hfs : Fr (At g) w (w.setCell ⟨g, 6, none⟩ (.int .i64 7)) := (Fr.refl _ _).set _ _ (fun _ => rfl)
  have hat := Ha.out.set6 7
  generalize w.setCell ⟨g, 6, none⟩ (.int .i64 7) = w1 at *
  have Hq1 := Lib.hid (Hq.out.fr hfs (fun e => hne e.symm))
  have Ha1 := Lib.hid hat
  have Hf1 := Lib.hid hfs
  clear hfs hat Hq Ha x6 x9 xf hgl
  obtain ⟨-, -, -, -, -, -, x6, -, x9, xf⟩ := archT_cells Ha1.out
  have hgl := blk_lt Ha1.out
  refine wp_loop_rounds 1 ?_
  rw [rounds_succ]
  go_wp2_with fail
  refine (dueNextNil q w1 Hq1.out).mono ?_
  rintro e w2 ⟨rfl, hp2⟩
  have Ha2 := Lib.hid (Ha1.out.fr hp2 (fun h => h))
  have Hf2 := Lib.hid (Hf1.out.pu hp2)
  clear hp2 Ha1 Hf1 Hq1 x6 x9 xf hgl
  obtain ⟨-, -, -, -, -, -, x6, -, x9, xf⟩ := archT_cells Ha2.out
  have hgl := blk_lt Ha2.out
  go_wp2_with fail
  go_quiet (fail)
  go_wp2_with fail
  have hpz : Pu w2 ((w2.alloc (.cells #[.int .i64 0, .int .i64 0] 109)).drewN nq) := ((Fr.refl _ _).alloc _).drewN nq
  go_ret
  exact ⟨rfl, Ha2.out.fr hpz (fun h => h), Hf2.out.pu hpz⟩
end
end Go.Proofs.YtaendhbiehknlaaGreatDoor

namespace Go.Proofs.YtaendhbiehknlaaGreatDoor
open Go.RowKit Go.Shelf Go.Proofs

set_option maxRecDepth 100000 in
theorem archDeliverNil (g : Nat) (t : Int) (w : World) (h : w.cell? ⟨g, 6, none⟩ = some (.int .i64 t)) : Calls Tryz.prog 19 #[.pointer (some ⟨g, 0, none⟩), .slice none 0 0, .slice none 0 0] w fun e w' => ∃ v, e = .returned v ∧ ErrIs w' v [(archT, t)] 12 ∧ Pu w w' := by
  have hgl : g < w.heap.size := World.block_lt_of_cell? w _ h
  have H := Lib.hid h
  clear h
  go_enter Tryz.func19, Tryz.ntmps19
  go_wp2_with fail
  refine (messageKindNil w).mono ?_
  rintro e w1 ⟨rfl, hp1⟩
  have h1 := (hp1.pcell g 6 hgl).trans H.out
  go_wp2_with fail
  refine (archFail g t 12 _ (by first | exact h1 | simpa using h1) (by decide)).mono ?_
  rintro e w2 ⟨v, rfl, he, hp⟩
  go_wp2
  go_ret
  exact ⟨v, rfl, he, hp1.pu hp⟩
end Go.Proofs.YtaendhbiehknlaaGreatDoor

namespace Go.Proofs.YtaendhbiehknlaaGreatDoor
open Go.RowKit Go.Shelf Go.Proofs

abbrev Q3 (w1 : World) (g b : Nat) (x y z : Value) (w' : World) : Prop := w'.cell? ⟨g, 2, none⟩ = some x ∧ w'.cell? ⟨b, 0, none⟩ = some y ∧ w'.cell? ⟨b, 1, none⟩ = some z ∧ Pu w1 w'
theorem Q3.pu {w1 : World} {g b : Nat} {x y z : Value} {w w' : World} (hp : Pu w w') (h : Q3 w1 g b x y z w) : Q3 w1 g b x y z w' := by
  obtain ⟨h0, h1, h2, h3⟩ := h
  have hg : g < w.heap.size := World.block_lt_of_cell? w _ h0
  have hl : b < w.heap.size := World.block_lt_of_cell? w _ h1
  exact ⟨(hp.pcell g _ hg).trans h0, (hp.pcell b _ hl).trans h1, (hp.pcell b _ hl).trans h2, h3.pu hp⟩
theorem Q3.drew {w1 : World} {g b : Nat} {x y z : Value} {w : World} (h : Q3 w1 g b x y z w) : Q3 w1 g b x y z w.drew := Q3.pu ((Fr.refl No w).drew) h
theorem Q3.alloc {w1 : World} {g b : Nat} {x y z : Value} {w : World} (o : Obj) (h : Q3 w1 g b x y z w) : Q3 w1 g b x y z (w.alloc o) := Q3.pu ((Fr.refl No w).alloc o) h
theorem Q3.set {w1 : World} {g b : Nat} {x y z : Value} {w : World} (k i : Nat) (v : Value) (hk : w1.heap.size ≤ k) (h : Q3 w1 g b x y z w) (hg : g < w1.heap.size) (hb : b < w1.heap.size) : Q3 w1 g b x y z (w.setCell ⟨k, i, none⟩ v) := by
  obtain ⟨h0, h1, h2, h3⟩ := h
  have kk : ∀ m o, m ≠ k → (w.setCell ⟨k, i, none⟩ v).cell? ⟨m, o, none⟩ = w.cell? ⟨m, o, none⟩ := fun m o hm => World.cell?_of_block (a := ⟨m, o, none⟩) (Below.heap_setCell _ _ _ _ hm)
  exact ⟨(kk _ _ (by omega)).trans h0, (kk _ _ (by omega)).trans h1, (kk _ _ (by omega)).trans h2, h3.set ⟨k, i, none⟩ v (fun h => absurd h (by show ¬ k < w1.heap.size; omega))⟩
def initT : Bytes := [105, 110, 105, 116]
def leafT : Bytes := [108, 101, 97, 102]
theorem initTs : (⟨#[105, 110, 105, 116]⟩ : ByteArray) = str initT := rfl
theorem leafTs : (⟨#[108, 101, 97, 102]⟩ : ByteArray) = str leafT := rfl
def initK (draw : Bytes) : Nat := keyOf (derive draw initT)
def leafK (draw : Bytes) : Nat := keyOf (derive draw leafT)
theorem set3of3 {W : World} {g : Nat} {a b c : Value} {t : TypeId} (x y z : Value) (h : W.heap[g]? = some (.cells #[a, b, c] t (0, 0))) : (((W.setCell ⟨g, 0, none⟩ x).setCell ⟨g, 1, none⟩ y).setCell ⟨g, 2, none⟩ z).heap[g]? = some (.cells #[x, y, z] t (0, 0)) := by
  simp only [World.setCell, Array.getElem?_modify, if_pos, h, Option.map_some]
  rfl
set_option maxRecDepth 100000 in
set_option maxHeartbeats 1000000 in
theorem archPackage {w : World} {g : Nat} {t per keep : Int} {A : Option Addr} {n c : Nat} {lg kt ld : Option Addr} {mp : Option Nat} {dr dq : Option Addr} (h : ArchT w g t per keep A n c lg kt ld mp dr dq) (name : Bytes) (hnm : Bs (fun k => k ≠ g) w (.slice A n c) name) (hnl : name.length ≤ 1000) (v : Value) (draw : Bytes) (S : Nat → Prop) (hG : Globs w) (hv : Bs S w v draw) (hd : draw.length = 32) (h1 : rightPublic (pow61 3 (leafK draw)) = true) (h2 : rightPublic (pow61 3 (initK draw)) = true) :
    Calls Tryz.prog 18 #[.pointer (some ⟨g, 0, none⟩), v] w fun e w' => ∃ A6 c6 x y, e = .returned (.tuple #[.agg #[.slice A6 name.length c6, .int .u64 x, .int .u64 y], .nilIface]) ∧ (∃ dr', ArchT w' g t per keep A n c lg kt ld mp dr' dq) ∧ Fr (At g) w w' := by
  obtain ⟨A0, c0, rfl, hc0, hm0⟩ := hv.shape
  have Ha := Lib.hid h
  have HG := Lib.hid hG
  rw [hd] at hv
  have Hv := Lib.hid hv
  have H1 := Lib.hid h1
  have H2 := Lib.hid h2
  have Hnm := Lib.hid hnm
  clear h hG hv h1 h2 hnm
  rw [hd]
  go_enter Tryz.func18, Tryz.ntmps18
  go_wp2_with fail
  have hp0 : Pu w (w.alloc (.cells #[.slice none 0 0, .int .u64 0, .int .u64 0] 67)) := (Fr.refl _ _).alloc _
  have hb0 := heap_alloc_new w (.cells #[.slice none 0 0, .int .u64 0, .int .u64 0] 67)
  generalize w.alloc (.cells #[.slice none 0 0, .int .u64 0, .int .u64 0] 67) = w0 at *
  have hlen : draw.length ≤ 1099511627776 := by omega
  rw [initTs]
  refine (kdfDerive _ draw initT S w0 (HG.out.pu hp0) (Hv.out.pu hp0) hlen (by decide)).mono ?_
  rintro e w1 ⟨v1, rfl, hb1, hp1⟩
  obtain ⟨A1, c1, rfl, _, _⟩ := hb1.shape
  have hl1 : (derive draw initT).length = 32 := expand_length _ _ _
  have Hp1 := Lib.hid (hp0.pu hp1)
  have HB1 := Lib.hid hb1
  have Hb1 := Lib.hid ((hp1.block _ (blk_lt hb0) (fun h => h)).trans hb0)
  clear hp0 hb0 hp1 hb1
  go_wp2_with fail
  refine (powerKey _ (derive draw initT) _ w1 (HG.out.pu Hp1.out) HB1.out (by omega)).mono ?_
  rintro e w2 ⟨rfl, hp2⟩
  have Hp2 := Lib.hid (Hp1.out.pu hp2)
  have Hb2 := Lib.hid ((hp2.block _ (blk_lt Hb1.out) (fun h => h)).trans Hb1.out)
  clear hp2 Hp1 Hb1
  go_wp2_with fail
  rw [leafTs]
  refine (kdfDerive _ draw leafT S w2 (HG.out.pu Hp2.out) (Hv.out.pu Hp2.out) hlen (by decide)).mono ?_
  rintro e w3 ⟨v3, rfl, hb3, hp3⟩
  obtain ⟨A3, c3, rfl, _, _⟩ := hb3.shape
  have hl3 : (derive draw leafT).length = 32 := expand_length _ _ _
  have Hp3 := Lib.hid (Hp2.out.pu hp3)
  have HB3 := Lib.hid hb3
  have Hb3 := Lib.hid ((hp3.block _ (blk_lt Hb2.out) (fun h => h)).trans Hb2.out)
  clear hp3 Hp2 Hb2 hb3 HB1
  go_wp2_with fail
  refine (powerKey _ (derive draw leafT) _ w3 (HG.out.pu Hp3.out) HB3.out (by omega)).mono ?_
  rintro e w4 ⟨rfl, hp4⟩
  have Hp4 := Lib.hid (Hp3.out.pu hp4)
  have Hb4 := Lib.hid ((hp4.block _ (blk_lt Hb3.out) (fun h => h)).trans Hb3.out)
  clear hp4 Hp3 Hb3 HB3
  go_wp2_with fail
  rw [show keyOf (derive draw initT) = initK draw from rfl, show keyOf (derive draw leafT) = leafK draw from rfl]
  have hkl : leafK draw < 18446744073709551616 := by unfold leafK keyOf; omega
  have hki : initK draw < 18446744073709551616 := by unfold initK keyOf; omega
  generalize initK draw = ki at *
  generalize leafK draw = kl at *
  have hp5 : Pu w4 (w4.alloc (.cells #[.int .u64 ki, .int .u64 kl] 138)) := (Fr.refl _ _).alloc _
  have hb5 := heap_alloc_new w4 (.cells #[.int .u64 ki, .int .u64 kl] 138)
  generalize w4.alloc (.cells #[.int .u64 ki, .int .u64 kl] 138) = w5 at *
  generalize w4.heap.size = b at *
  have Hp5 := Lib.hid (Hp4.out.pu hp5)
  have HB5 := Lib.hid hb5
  have hz5 := (hp5.block _ (blk_lt Hb4.out) (fun h => h)).trans Hb4.out
  have HZ5 := Lib.hid hz5
  have Ha5 := Lib.hid (Ha.out.fr Hp5.out (fun h => h))
  have Hnm5 := Lib.hid (Hnm.out.pu Hp5.out)
  clear hp5 hz5 Hp4 Hb4 Hnm
  obtain ⟨-, -, x2, -, -, -, -, -, -, xf⟩ := archT_cells Ha5.out
  have y0 : w5.cell? ⟨b, 0, none⟩ = some (.int .u64 ki) := by rw [cell_of_row _ _ _ _ _ _ hb5]; rfl
  have y1 : w5.cell? ⟨b, 1, none⟩ = some (.int .u64 kl) := by rw [cell_of_row _ _ _ _ _ _ hb5]; rfl
  have hgl := blk_lt Ha5.out
  have hbl := blk_lt hb5
  clear hb5 xf
  have hL : Q3 w5 g b (.slice A n c) (.int .u64 ki) (.int .u64 kl) w5 := ⟨x2, y0, y1, Fr.refl _ _⟩
  go_region_held3 (fun w' => w'.cell? ⟨g, 2, none⟩ = some (.slice A n c) ∧ w'.cell? ⟨b, 0, none⟩ = some (.int .u64 ki) ∧ w'.cell? ⟨b, 1, none⟩ = some (.int .u64 kl) ∧ Pu w5 w')
    (first | with_reducible exact hL | with_reducible exact hk | with_reducible exact Q3.drew hL | with_reducible exact Q3.drew (Q3.alloc _ hL) | with_reducible exact Q3.alloc _ (by assumption) | with_reducible exact Q3.drew (by assumption) | with_reducible exact Q3.drew (Q3.alloc _ (by assumption)) | with_reducible exact Q3.set _ _ _ (by first | omega | (simp; omega)) (Q3.set _ _ _ (by first | omega | (simp; omega)) (Q3.set _ _ _ (by first | omega | (simp; omega)) (by assumption) hgl hbl) hgl hbl) hgl hbl)
    (first
      | (go_at_call 64; refine (powerPublic kl _ hkl).mono ?_; rintro e w' ⟨rfl, rfl⟩)
      | (go_at_call 64; refine (powerPublic ki _ hki).mono ?_; rintro e w' ⟨rfl, rfl⟩)
      | (go_at_call 33; refine (cloneBytes _ name (fun k => k ≠ g) _ (Hnm5.out.pu (by first | exact (Fr.refl _ _).drew | exact ((Fr.refl _ _).alloc _).drew | exact (Fr.refl _ _))) (by omega)).mono ?_; rintro e w6 ⟨v6, rfl, ho6, hp6⟩; obtain ⟨A6, c6, rfl, _, _⟩ := own_shape2 ho6; have hk := Q3.pu (w1 := w5) (g := g) (b := b) (x := .slice A n c) (y := .int .u64 ki) (z := .int .u64 kl) hp6 (by assumption); (first | (have hn := (hp6.block w5.heap.size (by simp) (fun h => h)).trans (show (w5.alloc (.cells #[.slice none 0 0, .int .u64 0, .int .u64 0] 67)).drew.heap[w5.heap.size]? = some (.cells #[.slice none 0 0, .int .u64 0, .int .u64 0] 67 (0, 0)) from heap_alloc_new w5 _); obtain ⟨q0, q1, q2, qf⟩ := block3 hn) | skip); have hsz6 := hp6.size; have Ho6 := Lib.hid ho6; have Hp6 := Lib.hid hp6; clear ho6 hp6))
  all_goals
    rename_i hHeld
    obtain ⟨-, -, -, hpw⟩ := hHeld
    clear hk
  all_goals
    first
      | (have HPW := Lib.hid (show Pu w5 (w6.alloc (.cells #[.slice A6 name.length c6, .int .u64 (pow61 3 kl), .int .u64 (pow61 3 ki)] 67)) from by with_reducible exact hpw); clear hpw; have HB := Lib.hid (heap_alloc_new w6 (.cells #[.slice A6 name.length c6, .int .u64 (pow61 3 kl), .int .u64 (pow61 3 ki)] 67)); generalize w6.alloc (.cells #[.slice A6 name.length c6, .int .u64 (pow61 3 kl), .int .u64 (pow61 3 ki)] 67) = W at *; have hbp : w5.heap.size ≤ w6.heap.size := hsz6; generalize w6.heap.size = bp at *)
      | (have HPW := Lib.hid (show Pu w5 (((w6.setCell ⟨w5.heap.size, 0, none⟩ (.slice A6 name.length c6)).setCell ⟨w5.heap.size, 1, none⟩ (.int .u64 (pow61 3 kl))).setCell ⟨w5.heap.size, 2, none⟩ (.int .u64 (pow61 3 ki))) from by with_reducible exact hpw); clear hpw; have HB := Lib.hid (set3of3 (.slice A6 name.length c6) (.int .u64 (pow61 3 kl)) (.int .u64 (pow61 3 ki)) hn); generalize ((w6.setCell ⟨w5.heap.size, 0, none⟩ (.slice A6 name.length c6)).setCell ⟨w5.heap.size, 1, none⟩ (.int .u64 (pow61 3 kl))).setCell ⟨w5.heap.size, 2, none⟩ (.int .u64 (pow61 3 ki)) = W at *; have hbp : w5.heap.size ≤ w5.heap.size := Nat.le_refl _; generalize w5.heap.size = bp at *)
  all_goals
    obtain ⟨u0, u1, u2, uf⟩ := block3 HB.out
    have hbl2 := blk_lt HB.out
    have HaW := Lib.hid (Ha5.out.fr HPW.out (fun h => h))
    have HzW := Lib.hid ((HPW.out.block _ (blk_lt HZ5.out) (fun h => h)).trans HZ5.out)
    have HfW := Lib.hid (Hp5.out.pu HPW.out)
    clear HPW
    try clear hn q0 q1 q2 qf
    obtain ⟨-, -, -, -, -, -, -, x8, -, xf⟩ := archT_cells HaW.out
    have hglW := blk_lt HaW.out
    obtain ⟨r0, r1, r2, rf⟩ := block3 HzW.out
    have hzl := blk_lt HzW.out
    go_wp2_with fail
    refine (powerRight (pow61 3 kl) W).mono ?_
    rintro e w' ⟨rfl, rfl⟩
    rw [H1.out]
    go_wp2_with fail
    refine (powerRight (pow61 3 ki) W).mono ?_
    rintro e w' ⟨rfl, rfl⟩
    rw [H2.out]
    go_wp2_with fail
  all_goals
    have hgw : w.heap.size ≠ g := by have h9 := blk_lt Ha.out; omega
    have hf1 : Fr (At g) W (W.setCell ⟨g, 8, none⟩ (.pointer (some ⟨b, 0, none⟩))) := (Fr.refl _ _).set _ _ (fun _ => rfl)
    have ha1 := HaW.out.set8 (some ⟨b, 0, none⟩)
    have hz1 := (hf1.block _ hzl hgw).trans HzW.out
    generalize W.setCell ⟨g, 8, none⟩ (.pointer (some ⟨b, 0, none⟩)) = W1 at *
    have hz2 := set3of3 (.slice A6 name.length c6) (.int .u64 (pow61 3 kl)) (.int .u64 (pow61 3 ki)) hz1
    have hf2 : Fr (At w.heap.size) W1 (((W1.setCell ⟨w.heap.size, 0, none⟩ (.slice A6 name.length c6)).setCell ⟨w.heap.size, 1, none⟩ (.int .u64 (pow61 3 kl))).setCell ⟨w.heap.size, 2, none⟩ (.int .u64 (pow61 3 ki))) := (((Fr.refl (At w.heap.size) W1).set ⟨w.heap.size, 0, none⟩ _ (fun _ => rfl)).set ⟨w.heap.size, 1, none⟩ _ (fun _ => rfl)).set ⟨w.heap.size, 2, none⟩ _ (fun _ => rfl)
    generalize ((W1.setCell ⟨w.heap.size, 0, none⟩ (.slice A6 name.length c6)).setCell ⟨w.heap.size, 1, none⟩ (.int .u64 (pow61 3 kl))).setCell ⟨w.heap.size, 2, none⟩ (.int .u64 (pow61 3 ki)) = W2 at *
    obtain ⟨e0, e1, e2, ef⟩ := block3 hz2
    have hA := ha1.fr hf2 (fun e => hgw e.symm)
    have hF := (HfW.out.any.trans hf1 (fun _ _ h => h)).trans hf2 (fun m hm e => by have e : m = w.heap.size := e; omega)
    clear u0 u1 u2 uf x8 xf r0 r1 r2 rf hz2 hz1 ha1 hf1 hf2 HB ef x2 y0 y1 hL HaW HzW HfW
    exact bodyPost_ret (v := .tuple #[.agg #[.slice A6 name.length c6, .int .u64 (pow61 3 kl), .int .u64 (pow61 3 ki)], .nilIface]) (by simp [results, Tryz.results18, go_sem, e0, e1, e2]) rfl ⟨_, _, _, _, rfl, ⟨_, hA⟩, hF⟩
end Go.Proofs.YtaendhbiehknlaaGreatDoor
