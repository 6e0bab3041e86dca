/- What is proved here, of the given program: The document's log (ref13, ref15): Head, Parse, Told, end, Open of an empty region. -/
import Derived.Deep.RegionLaw
import Derived.Test.YtaendhbiehknlaaGreatDoorU38
import Derived.Test.YtaendhbiehknlaaGreatDoorU41
set_option linter.unusedVariables false
set_option linter.unusedSimpArgs false
set_option linter.constructorNameAsVariable false
namespace Go.Proofs.YtaendhbiehknlaaGreatDoor
open Go.RowKit Go.Shelf Go.Proofs

theorem block4 {W : World} {g : Nat} {a b c d : Value} {t : TypeId} (h : W.heap[g]? = some (.cells #[a, b, c, d] t (0, 0))) :
    W.cell? ⟨g, 0, none⟩ = some a ∧ W.cell? ⟨g, 1, none⟩ = some b ∧ W.cell? ⟨g, 2, none⟩ = some c ∧ W.cell? ⟨g, 3, none⟩ = some d ∧ (∀ i, W.frozen? ⟨g, i, none⟩ = false) := by
  refine ⟨?_, ?_, ?_, ?_, fun i => by simp [World.frozen?, h]⟩ <;> (rw [cell_of_row _ _ _ _ _ _ h]; rfl)
theorem set4of4 {W : World} {g : Nat} {a b c d : Value} {t : TypeId} (x y z u : Value) (h : W.heap[g]? = some (.cells #[a, b, c, d] t (0, 0))) : ((((W.setCell ⟨g, 0, none⟩ x).setCell ⟨g, 1, none⟩ y).setCell ⟨g, 2, none⟩ z).setCell ⟨g, 3, none⟩ u).heap[g]? = some (.cells #[x, y, z, u] t (0, 0)) := by
  simp only [World.setCell, Array.getElem?_modify, if_pos, h, Option.map_some]
  rfl
def headT : Bytes := engrT ++ number 0 4 ++ zeros 32 ++ number 0 8
theorem headT_length : headT.length = 48 := by simp [headT, engrT, number_length, zeros_length]
set_option maxRecDepth 100000 in
set_option maxHeartbeats 1000000 in
theorem refHead (w : World) : Calls Tryz.prog 219 #[.int .i64 0, .int .i64 0, .string (str (zeros 32))] w fun e w' => ∃ x, e = .returned (.string (str x)) ∧ (zeros 128 == x) = false ∧ Pu w w' := by
  have C1 := Lib.hid (fun W => refNumber4 0 W (Lib.hid (by decide)))
  have C3 := Lib.hid (fun W => refNumber8 0 W (Lib.hid (by decide)))
  have C2 := Lib.hid (fun W => refWith headT W (by rw [headT_length]; omega))
  have l1 := number_length 0 4
  have l3 := number_length 0 8
  have l2 := zeros_length 32
  have hk : headT = engrT ++ number 0 4 ++ zeros 32 ++ number 0 8 := rfl
  have hx : (crcWith headT).length = 52 := by rw [crcWith_length, headT_length]
  have hse := sector_eq (crcWith headT) (by omega)
  rw [hx] at hse
  have hne : (sector (crcWith headT) == zeros 128) = false := sector_ne 101 ([110, 103, 114] ++ number 0 4 ++ zeros 32 ++ number 0 8 ++ number (crcOf headT) 4) (by decide) (by simp [number_length, zeros_length])
  rw [hse] at hne
  have hne : (zeros 128 == crcWith headT ++ zeros (128 - 52)) = false := by rw [beq_eq_false_iff_ne] at hne ⊢; exact fun h => hne h.symm
  have Hne := Lib.hid hne
  have Hx := Lib.hid hx
  generalize crcWith headT = cw at *
  generalize headT = kt at *
  generalize number 0 4 = n1 at *
  generalize number 0 8 = n3 at *
  have a1 := fun W => run_add_str (P := Tryz.prog) W engrT n1 (by rw [l1]; decide)
  have a1 : ∀ W, (Op.stringOp .add ⟨#[101, 110, 103, 114]⟩ (str n1)).run Tryz.prog W = .ok (.string (str (engrT ++ n1))) W := a1
  have m1 : (engrT ++ n1).length = 8 := by rw [List.length_append, l1]; rfl
  generalize engrT ++ n1 = t1 at *
  have a2 := fun W => run_add_str (P := Tryz.prog) W t1 (zeros 32) (by omega)
  have m2 : (t1 ++ zeros 32).length = 40 := by rw [List.length_append]; omega
  generalize t1 ++ zeros 32 = t2 at *
  have a3 := fun W => run_add_str (P := Tryz.prog) W t2 n3 (by omega)
  rw [← hk] at a3
  clear m1 m2
  clear hk l1 l2 l3 hse hne hx
  go_enter Tryz.func219, Tryz.ntmps219
  go_wp2_with fail
  refine (C1.out _).mono ?_
  rintro e w1 ⟨rfl, hp1⟩
  have Hp1 := Lib.hid hp1
  clear hp1
  go_wp2_with fail
  refine (C3.out _).mono ?_
  rintro e w3 ⟨rfl, hp3⟩
  have Hp3 := Lib.hid (Hp1.out.pu hp3)
  clear hp3
  go_wp2_with fail
  refine (C2.out _).mono ?_
  rintro e w2 ⟨rfl, hp2⟩
  have Hp2 := Lib.hid (Hp3.out.pu hp2)
  clear hp2 a1 a2 a3
  have hsz : (str cw).size = 52 := by rw [str_size]; exact Hx.out
  have hadd := fun W => run_add_str (P := Tryz.prog) W cw (zeros 76) (by rw [Hx.out, zeros_length]; omega)
  have hmk : ∀ W, (Instr.makeSlice 23 (.int .i64 76) (.int .i64 76)).run Tryz.prog W = .ok (.slice (some ⟨W.heap.size, 0, none⟩) 76 76) (W.alloc (.cells (zrow 76) 5)) := run_zrow 76 (by omega)
  have hzs := run_zstr 76 (by omega)
  go_wp2
  go_ret
  exact ⟨_, rfl, Hne.out, Hp2.out.alloc _⟩
set_option maxRecDepth 100000 in
set_option maxHeartbeats 1000000 in
theorem refParse (N : Nat) (hN : N % 128 = 0 ∧ 256 ≤ N ∧ N ≤ 17592186044416) (w : World) : Calls Tryz.prog 152 #[.string (str (zeros N)), .int .i64 0, .int .i64 0, .string (str (zeros 32))] w fun e w' => e = .returned (.tuple #[.agg #[.slice none 0 0, .string ⟨#[]⟩, .bool false, .int .i64 0], .bool false]) ∧ Pu w w' := by
  obtain ⟨hN1, hN2, hN3⟩ := hN
  have hsz : (str (zeros N)).size = N := by rw [str_size, zeros_length]
  have hm : (N : Int) % 128 = 0 := by omega
  have hm2 : (N : Int).tmod 128 = 0 := by rw [Int.tmod_eq_emod_of_nonneg (by omega)]; exact hm
  have s1 : ∀ W, (Instr.slice 9 (.string (str (zeros N))) none (some (.int .i64 128)) none).run Tryz.prog W = .ok (.string (str ((zeros N).take 128))) W := fun W => run_cut_head (P := Tryz.prog) W 9 (zeros N) 128 Tryz.underlying9 (by omega) (by rw [zeros_length]; omega)
  rw [zeros_take, Nat.min_eq_left (by omega)] at s1
  have hg : decide ((N : Int) < 256) = false := by simp; omega
  go_enter Tryz.func152, Tryz.ntmps152
  go_wp2_with fail
  have hp0 : Pu w (w.alloc (.cells #[.slice none 0 0, .string ⟨#[]⟩, .bool false, .int .i64 0] 285)) := (Fr.refl _ _).alloc _
  have hb0 := heap_alloc_new w (.cells #[.slice none 0 0, .string ⟨#[]⟩, .bool false, .int .i64 0] 285)
  generalize w.alloc (.cells #[.slice none 0 0, .string ⟨#[]⟩, .bool false, .int .i64 0] 285) = w0 at *
  have Hb0 := Lib.hid hb0
  have Hp0 := Lib.hid hp0
  clear hp0 hb0
  generalize hzz : zeros 128 = zz at *
  have CH := fun W => refHead W
  rw [hzz] at CH
  have CH := Lib.hid CH
  clear hzz
  go_region_held3 (fun _ => True) (trivial)
    (first
      | (go_at_call 219; (with_reducible refine (CH.out _).mono ?_); rintro e w1 ⟨x, rfl, hx, hp1⟩; have hxe : ((str zz).toList == (str x).toList) = false := (by rw [str_beq]; exact hx); have hxn : ¬ zz = x := (by simpa using hx); have Hp1 := Lib.hid (((Fr.refl No w0).drew).pu hp1); clear hp1 hx))
  all_goals
    have hz := (Hp1.out.block _ (blk_lt Hb0.out) (fun h => h)).trans Hb0.out
    have d0 : w1.cell? ⟨w.heap.size, 0, none⟩ = some (.slice none 0 0) := by rw [cell_of_row _ _ _ _ _ _ hz]; rfl
    have d1 : w1.cell? ⟨w.heap.size, 1, none⟩ = some (.string ⟨#[]⟩) := by rw [cell_of_row _ _ _ _ _ _ hz]; rfl
    have d2 : w1.cell? ⟨w.heap.size, 2, none⟩ = some (.bool false) := by rw [cell_of_row _ _ _ _ _ _ hz]; rfl
    have d3 : w1.cell? ⟨w.heap.size, 3, none⟩ = some (.int .i64 0) := by rw [cell_of_row _ _ _ _ _ _ hz]; rfl
    have df : ∀ i, w1.frozen? ⟨w.heap.size, i, none⟩ = false := fun i => by simp [World.frozen?, hz]
    have hzl := blk_lt hz
    go_wp2
    have hz2 := set4of4 (.slice none 0 0) (.string ⟨#[]⟩) (.bool false) (.int .i64 0) hz
    have hf2 : Fr (At w.heap.size) w1 ((((w1.setCell ⟨w.heap.size, 0, none⟩ (.slice none 0 0)).setCell ⟨w.heap.size, 1, none⟩ (.string ⟨#[]⟩)).setCell ⟨w.heap.size, 2, none⟩ (.bool false)).setCell ⟨w.heap.size, 3, none⟩ (.int .i64 0)) := ((((Fr.refl (At w.heap.size) w1).set ⟨w.heap.size, 0, none⟩ _ (fun _ => rfl)).set ⟨w.heap.size, 1, none⟩ _ (fun _ => rfl)).set ⟨w.heap.size, 2, none⟩ _ (fun _ => rfl)).set ⟨w.heap.size, 3, none⟩ _ (fun _ => rfl)
    have hpz := Fr.new (Hp0.out.pu Hp1.out) hf2 (Nat.le_refl _)
    generalize (((w1.setCell ⟨w.heap.size, 0, none⟩ (.slice none 0 0)).setCell ⟨w.heap.size, 1, none⟩ (.string ⟨#[]⟩)).setCell ⟨w.heap.size, 2, none⟩ (.bool false)).setCell ⟨w.heap.size, 3, none⟩ (.int .i64 0) = w2 at *
    have e0 : w2.cell? ⟨w.heap.size, 0, none⟩ = some (.slice none 0 0) := by rw [cell_of_row _ _ _ _ _ _ hz2]; rfl
    have e1 : w2.cell? ⟨w.heap.size, 1, none⟩ = some (.string ⟨#[]⟩) := by rw [cell_of_row _ _ _ _ _ _ hz2]; rfl
    have e2 : w2.cell? ⟨w.heap.size, 2, none⟩ = some (.bool false) := by rw [cell_of_row _ _ _ _ _ _ hz2]; rfl
    have e3 : w2.cell? ⟨w.heap.size, 3, none⟩ = some (.int .i64 0) := by rw [cell_of_row _ _ _ _ _ _ hz2]; rfl
    clear d0 d1 d2 d3 df hz hz2 hf2 Hp1 Hb0
    exact bodyPost_ret (v := .tuple #[.agg #[.slice none 0 0, .string ⟨#[]⟩, .bool false, .int .i64 0], .bool false]) (by simp [results, Tryz.results152, go_sem, e0, e1, e2, e3]) rfl ⟨rfl, hpz⟩
/-- The document's log at block g. -/
def LogR (w : World) (g : Nat) (d f s size : Value) (vb : Value) (last used clean : Int) (vt vc : Value) (sure : Int) (k1 k2 : Value) : Prop := w.heap[g]? = some (.cells #[d, f, s, size, vb, .int .i64 last, .int .i64 used, .int .i64 clean, vt, vc, .int .i64 sure, k1, k2] 120 (0, 0))
theorem LogR.cells {w : World} {g : Nat} {d f s size vb : Value} {last used clean : Int} {vt vc : Value} {sure : Int} {k1 k2 : Value} (h : LogR w g d f s size vb last used clean vt vc sure k1 k2) :
    w.cell? ⟨g, 0, none⟩ = some d ∧ w.cell? ⟨g, 1, none⟩ = some f ∧ w.cell? ⟨g, 2, none⟩ = some s ∧ w.cell? ⟨g, 3, none⟩ = some size ∧ w.cell? ⟨g, 4, none⟩ = some vb ∧ w.cell? ⟨g, 5, none⟩ = some (.int .i64 last) ∧ w.cell? ⟨g, 6, none⟩ = some (.int .i64 used) ∧ w.cell? ⟨g, 7, none⟩ = some (.int .i64 clean) ∧ w.cell? ⟨g, 8, none⟩ = some vt ∧ w.cell? ⟨g, 9, none⟩ = some vc ∧ w.cell? ⟨g, 10, none⟩ = some (.int .i64 sure) ∧ ∀ i, w.frozen? ⟨g, i, none⟩ = false := by
  unfold LogR at h
  refine ⟨?_, ?_, ?_, ?_, ?_, ?_, ?_, ?_, ?_, ?_, ?_, fun i => by simp [World.frozen?, h]⟩ <;> (rw [cell_of_row _ _ _ _ _ _ h]; rfl)
theorem LogR.fr {w w' : World} {S : Nat → Prop} {g : Nat} {d f s size vb : Value} {last used clean : Int} {vt vc : Value} {sure : Int} {k1 k2 : Value} (h : LogR w g d f s size vb last used clean vt vc sure k1 k2) (hf : Fr S w w') (hg : ¬ S g) : LogR w' g d f s size vb last used clean vt vc sure k1 k2 := (hf.block g (blk_lt h) hg).trans h
abbrev L3 (w1 : World) (g : Nat) (x y z : Value) (w' : World) : Prop := w'.cell? ⟨g, 4, none⟩ = some x ∧ w'.cell? ⟨g, 8, none⟩ = some y ∧ w'.cell? ⟨g, 9, none⟩ = some z ∧ Pu w1 w'
theorem L3.pu {w1 : World} {g : Nat} {x y z : Value} {w w' : World} (hp : Pu w w') (h : L3 w1 g x y z w) : L3 w1 g x y z w' := by
  obtain ⟨h0, h1, h2, h3⟩ := h
  have hl : g < w.heap.size := World.block_lt_of_cell? w _ h1
  exact ⟨(hp.pcell g _ hl).trans h0, (hp.pcell g _ hl).trans h1, (hp.pcell g _ hl).trans h2, h3.pu hp⟩
theorem L3.drew {w1 : World} {g : Nat} {x y z : Value} {w : World} (h : L3 w1 g x y z w) : L3 w1 g x y z w.drew := L3.pu ((Fr.refl No w).drew) h
theorem L3.alloc {w1 : World} {g : Nat} {x y z : Value} {w : World} (o : Obj) (h : L3 w1 g x y z w) : L3 w1 g x y z (w.alloc o) := L3.pu ((Fr.refl No w).alloc o) h
theorem L3.set {w1 : World} {g : Nat} {x y z : Value} {w : World} (k i : Nat) (v : Value) (hk : w1.heap.size ≤ k) (hg : g < w1.heap.size) (h : L3 w1 g x y z w) : L3 w1 g x y z (w.setCell ⟨k, i, none⟩ v) := by
  obtain ⟨h0, h1, h2, h3⟩ := h
  have kk : ∀ m o, m ≠ k → (w.setCell ⟨k, i, none⟩ v).cell? ⟨m, o, none⟩ = w.cell? ⟨m, o, none⟩ := fun m o hm => World.cell?_of_block (a := ⟨m, o, none⟩) (Below.heap_setCell _ _ _ _ hm)
  exact ⟨(kk _ _ (by omega)).trans h0, (kk _ _ (by omega)).trans h1, (kk _ _ (by omega)).trans h2, h3.set ⟨k, i, none⟩ v (fun h => absurd h (by show ¬ k < w1.heap.size; omega))⟩
set_option maxRecDepth 100000 in
set_option maxHeartbeats 2000000 in
theorem refTold {w : World} {g d f s size N : Nat} (h : LogR w g (.pointer (some ⟨d, 0, none⟩)) (.int .i64 f) (.int .i64 s) (.int .i64 size) (.string (str (zeros N))) 0 0 0 (.slice none 0 0) (.string (str (zeros 32))) 0 (.bool false) (.bool false)) (hs : 1 ≤ s) (hz : 2 ≤ size ∧ size ≤ 512) (hN : 128 * size ≤ N) :
    Calls Tryz.prog 97 #[.pointer (some ⟨g, 0, none⟩)] w fun e w' => e = .returned (.tuple #[]) ∧ Pu w w' := by
  obtain ⟨-, -, x2, x3, x4, -, -, -, x8, x9, -, -⟩ := h.cells
  have hgl := blk_lt h
  clear h
  obtain ⟨hz1, hz2⟩ := hz
  obtain ⟨M, hM⟩ : ∃ M, M = 128 * size := ⟨_, rfl⟩
  have hm1 : (128 : Int) * (size : Int) = (M : Int) := by omega
  have hm2 : IntKind.i64.wrap (M : Int) = (M : Int) := IntWalk.i64_in _ (by omega)
  have hm3 : M % 128 = 0 ∧ 256 ≤ M ∧ M ≤ 17592186044416 := by omega
  have hmn : M ≤ N := by omega
  have s1 : ∀ W, (Instr.slice 9 (.string (str (zeros N))) (some (.int .i64 0)) (some (.int .i64 M)) none).run Tryz.prog W = .ok (.string (str (cut (zeros N) 0 M))) W := fun W => by
    have := run_cut (P := Tryz.prog) W 9 (zeros N) 0 M Tryz.underlying9 (by omega) (by omega) (by rw [zeros_length]; omega)
    simpa using this
  rw [cut_zeros _ _ _ (by omega)] at s1
  have CP := Lib.hid (fun W => refParse M hm3 W)
  have hw0 : IntKind.i64.wrap 0 = 0 := by decide
  have hex : (str (zeros N)).extract 0 M = str (zeros M) := by rw [str_extract, cut_zeros _ _ _ (by omega), Nat.sub_zero]
  have hsz : (str (zeros N)).size = N := by rw [str_size, zeros_length]
  have hMN : (M : Int) ≤ (N : Int) := by omega
  clear hM hm3 hmn
  go_enter Tryz.func97, Tryz.ntmps97
  go_wp2_with fail
  refine wp_loop_rounds 1 ?_
  rw [rounds_succ]
  go_wp2_with fail
  have hL : L3 w g (.string (str (zeros N))) (.slice none 0 0) (.string (str (zeros 32))) w := ⟨x4, x8, x9, Fr.refl _ _⟩
  go_region_held3 (fun w' => w'.cell? ⟨g, 4, none⟩ = some (.string (str (zeros N))) ∧ w'.cell? ⟨g, 8, none⟩ = some (.slice none 0 0) ∧ w'.cell? ⟨g, 9, none⟩ = some (.string (str (zeros 32))) ∧ Pu w w')
    (first | with_reducible exact hL | with_reducible exact hk | with_reducible exact L3.drew hL | with_reducible exact L3.drew (by assumption) | with_reducible exact L3.drew (L3.alloc _ hL) | with_reducible exact L3.alloc _ (by assumption) | with_reducible exact L3.drew (L3.alloc _ (by assumption)) | with_reducible exact L3.set _ _ _ (by first | omega | (simp; omega)) hgl (L3.set _ _ _ (by first | omega | (simp; omega)) hgl (L3.set _ _ _ (by first | omega | (simp; omega)) hgl (L3.set _ _ _ (by first | omega | (simp; omega)) hgl (by assumption)))))
    (first
      | (go_at_call 152; (with_reducible refine (CP.out _).mono ?_); rintro e w1 ⟨rfl, hp1⟩; have hk := L3.pu (w1 := w) (g := g) (x := .string (str (zeros N))) (y := .slice none 0 0) (z := .string (str (zeros 32))) hp1 (by assumption); (first | (have hn := (hp1.block w.heap.size (by simp) (fun h => h)).trans (show (w.alloc (.cells #[.slice none 0 0, .string ⟨#[]⟩, .bool false, .int .i64 0] 285)).drew.heap[w.heap.size]? = some (.cells #[.slice none 0 0, .string ⟨#[]⟩, .bool false, .int .i64 0] 285 (0, 0)) from heap_alloc_new w _); obtain ⟨q0, q1, q2, q3, qf⟩ := block4 hn; have hnl := blk_lt hn) | skip); have hsz1 := hp1.size; clear hp1))
  all_goals
    rename_i hHeld
    obtain ⟨-, -, -, hpw⟩ := hHeld
    have HPW := Lib.hid hpw
    clear hpw hL
  all_goals go_wp2
  all_goals
    exact bodyPost_ret (v := .tuple #[]) (by simp [results, Tryz.results97, go_sem]) rfl ⟨rfl, HPW.out⟩
theorem LogR.set4 {w : World} {g : Nat} {d f s size vb : Value} {last used clean : Int} {vt vc : Value} {sure : Int} {k1 k2 : Value} (v : Value) (h : LogR w g d f s size vb last used clean vt vc sure k1 k2) : LogR (w.setCell ⟨g, 4, none⟩ v) g d f s size v last used clean vt vc sure k1 k2 := by
  unfold LogR at h ⊢
  simp only [World.setCell, Array.getElem?_modify, if_pos, h, Option.map_some]
  rfl
set_option maxRecDepth 100000 in
theorem refEnd {w : World} {g size : Nat} {d f s vb : Value} {clean : Int} {vt vc : Value} {sure : Int} {k1 k2 : Value} (h : LogR w g d f s (.int .i64 size) vb 0 0 clean vt vc sure k1 k2) :
    Calls Tryz.prog 98 #[.pointer (some ⟨g, 0, none⟩)] w fun e w' => e = .returned (.int .i64 0) ∧ Pu w w' := by
  obtain ⟨-, -, -, x3, -, x5, x6, -, -, -, -, -⟩ := h.cells
  clear h
  have hw0 : IntKind.i64.wrap 0 = 0 := by decide
  go_enter Tryz.func98, Tryz.ntmps98
  go_wp2_with fail
  go_quiet (fail)
  go_wp2
  go_ret
  exact ⟨rfl, (Fr.refl _ _).drewN _⟩
abbrev LB (w1 : World) (g : Nat) (d f s size vb vt vc k1 k2 : Value) (w' : World) : Prop := w'.cell? ⟨g, 4, none⟩ = some vb ∧ w'.frozen? ⟨g, 4, none⟩ = false ∧ LogR w' g d f s size vb 0 0 0 vt vc 0 k1 k2 ∧ Fr (At g) w1 w'
section
variable {w1 w w' : World} {g : Nat} {d f s size vb vt vc k1 k2 : Value}
theorem LB.of (h : LogR w g d f s size vb 0 0 0 vt vc 0 k1 k2) (hf : Fr (At g) w1 w) : LB w1 g d f s size vb vt vc k1 k2 w := by
  obtain ⟨-, -, -, -, x4, -, -, -, -, -, -, xf⟩ := h.cells
  exact ⟨x4, xf 4, h, hf⟩
theorem LB.pu (hp : Pu w w') (h : LB w1 g d f s size vb vt vc k1 k2 w) : LB w1 g d f s size vb vt vc k1 k2 w' := LB.of (h.2.2.1.fr hp (fun h => h)) (h.2.2.2.pu' hp)
theorem LB.drew (h : LB w1 g d f s size vb vt vc k1 k2 w) : LB w1 g d f s size vb vt vc k1 k2 w.drew := LB.pu (Fr.refl _ _).drew h
theorem LB.alloc (o : Obj) (h : LB w1 g d f s size vb vt vc k1 k2 w) : LB w1 g d f s size vb vt vc k1 k2 (w.alloc o) := LB.pu ((Fr.refl _ _).alloc o) h
theorem LB.set (h : LB w1 g d f s size vb vt vc k1 k2 w) : LB w1 g d f s size vb vt vc k1 k2 (w.setCell ⟨g, 4, none⟩ vb) := LB.of (h.2.2.1.set4 vb) (h.2.2.2.set _ _ (fun _ => rfl))
end
set_option maxRecDepth 100000 in
set_option maxHeartbeats 2000000 in
theorem refLogOpen {w : World} {gd : Nat} {img : Bytes} (h : RefAt w gd img []) (hl : img.length ≤ 17592186044416) (f s size : Nat) (hs : 1 ≤ s ∧ s ≤ 256) (hz : 2 ≤ size ∧ size ≤ 512) (hf : f ≤ 1000) (ht : f + s * size ≤ img.length / 128) (hi : (img.drop (f * 128)).take (s * size * 128) = zeros (s * size * 128)) :
    Calls Tryz.prog 46 #[.pointer (some ⟨gd, 0, none⟩), .int .i64 f, .int .i64 s, .int .i64 size] w fun e w' => ∃ g, e = .returned (.tuple #[.pointer (some ⟨g, 0, none⟩), .int .i64 0]) ∧ w'.cell? ⟨g, 8, none⟩ = some (.slice none 0 0) ∧ w.heap.size ≤ g ∧ RefAt w' gd img [] ∧ Fr (At gd) w w' := by
  have hss : 1 ≤ s * size ∧ s * size ≤ 131072 := ⟨Nat.mul_pos (by omega) (by omega), Nat.le_trans (Nat.mul_le_mul hs.2 hz.2) (by decide)⟩
  have hsz1 : size ≤ s * size := Nat.le_mul_of_pos_left _ (by omega)
  have hgd := h.lt
  obtain ⟨m, hm⟩ : ∃ m, m = s * size := ⟨_, rfl⟩
  have hmul1 : (s : Int) * (size : Int) = (m : Int) := by rw [hm]; simp
  rw [← hm] at hss hsz1 ht hi
  clear hm
  have hmul2 : IntKind.i64.wrap (m : Int) = (m : Int) := IntWalk.i64_in _ (by omega)
  obtain ⟨N, hN⟩ : ∃ N, N = m * 128 := ⟨_, rfl⟩
  rw [← hN] at hi
  have CR := fun (W : World) (hW : Pu w W) => refRead (h.pu hW) (fun x hx => by simp at hx) hl f m (by omega) (by omega) ((thereB_iff _ _ _).2 (by omega))
  rw [show ((lay img []).drop (f * 128)).take (m * 128) = zeros N by rw [← hN]; exact hi] at CR
  unfold tv at CR
  have CR := Lib.hid CR
  have CW := Lib.hid (fun (W : World) (hW : RefAt W gd img []) => refWrite hW hl f m (zeros N) (by rw [zeros_length]; exact hN) ((thereB_iff _ _ _).2 (by omega)))
  have hqok : QOk img.length (partsOf (f : Int) (zeros N) m) := partsOf_ok f _ m img.length (by rw [zeros_length]; exact hN) (by omega) m (Nat.le_refl _)
  have hlay : lay img (partsOf (f : Int) (zeros N) m) = img := by rw [lay_parts img _ f m (by rw [zeros_length]; exact hN) (by omega)]; exact patch_same img (f * 128) N hi (by omega)
  have CF := fun (W : World) (hW : RefAt W gd img (partsOf (f : Int) (zeros N) m)) => refFlush hW hqok hl
  rw [hlay] at CF
  have CF := Lib.hid CF
  have hNb : N ≤ 17592186044416 := by omega
  have hN1 : 128 * size ≤ N := by omega
  have hN0 : (0 : Int) < (N : Int) := by omega
  have hN00 : 0 < N := by omega
  have hwN : IntKind.i64.wrap (N : Int) = (N : Int) := IntWalk.i64_in _ (by omega)
  have hw0 : IntKind.i64.wrap 0 = 0 := by decide
  have hwf : IntKind.i64.wrap (f : Int) = (f : Int) := IntWalk.i64_in _ (by omega)
  have CT := Lib.hid (fun (W : World) (g : Nat) (hL : LogR W g (.pointer (some ⟨gd, 0, none⟩)) (.int .i64 f) (.int .i64 s) (.int .i64 size) (.string (str (zeros N))) 0 0 0 (.slice none 0 0) (.string (str (zeros 32))) 0 (.bool false) (.bool false)) => refTold hL hs.1 hz hN1)
  have hmk := run_zrow N hNb
  have hzs := run_zstr N hNb
  have hzd := run_zstrD N hNb
  have hsz : (str (zeros N)).size = N := by rw [str_size, zeros_length]
  have Hr := Lib.hid h
  have s1 : ∀ W, (Instr.slice 9 (.string (str (zeros N))) none (some (.int .i64 0)) none).run Tryz.prog W = .ok (.string ⟨#[]⟩) W := fun W => by
    have := run_cut_head (P := Tryz.prog) W 9 (zeros N) 0 Tryz.underlying9 (by omega) (by omega)
    exact this
  have s2 : ∀ W, (Instr.slice 9 (.string (str (zeros N))) (some (.int .i64 0)) none none).run Tryz.prog W = .ok (.string (str (zeros N))) W := fun W => by
    have := run_cut_tail (P := Tryz.prog) W 9 (zeros N) 0 Tryz.underlying9 (by omega) (by omega)
    exact this
  have hadd : ∀ W, (Op.stringOp .add ⟨#[]⟩ (str (zeros N))).run Tryz.prog W = .ok (.string (str (zeros N))) W := fun W => run_add_str (P := Tryz.prog) W [] (zeros N) (by rw [zeros_length]; simp; omega)
  clear hs hz hss ht hi hN hqok hlay h hN1 hsz1 hf hl
  go_enter Tryz.func46, Tryz.ntmps46
  go_wp2_with fail
  refine (refZero12 w).mono ?_
  rintro e w1 ⟨rfl, hp1⟩
  have Hp1 := Lib.hid hp1
  clear hp1
  go_wp2_with fail
  have hb2 := heap_alloc_new w1 (.cells #[.pointer (some ⟨gd, 0, none⟩), .int .i64 f, .int .i64 s, .int .i64 size, .string ⟨#[]⟩, .int .i64 0, .int .i64 0, .int .i64 0, .slice none 0 0, .string (str (zeros 32)), .int .i64 0, .bool false, .bool false] 120)
  have hp2 : Pu w1 (w1.alloc (.cells #[.pointer (some ⟨gd, 0, none⟩), .int .i64 f, .int .i64 s, .int .i64 size, .string ⟨#[]⟩, .int .i64 0, .int .i64 0, .int .i64 0, .slice none 0 0, .string (str (zeros 32)), .int .i64 0, .bool false, .bool false] 120)) := (Fr.refl _ _).alloc _
  generalize w1.alloc (.cells #[.pointer (some ⟨gd, 0, none⟩), .int .i64 f, .int .i64 s, .int .i64 size, .string ⟨#[]⟩, .int .i64 0, .int .i64 0, .int .i64 0, .slice none 0 0, .string (str (zeros 32)), .int .i64 0, .bool false, .bool false] 120) = w2 at *
  have hl2 : LogR w2 w1.heap.size (.pointer (some ⟨gd, 0, none⟩)) (.int .i64 f) (.int .i64 s) (.int .i64 size) (.string ⟨#[]⟩) 0 0 0 (.slice none 0 0) (.string (str (zeros 32))) 0 (.bool false) (.bool false) := hb2
  have hgw := Hp1.out.size
  have Hp2 := Lib.hid (Hp1.out.pu hp2)
  generalize w1.heap.size = g at *
  have hgl := blk_lt hl2
  obtain ⟨-, -, -, -, x4, -, -, -, -, -, -, xf⟩ := hl2.cells
  have xf4 := xf 4
  have Hl2 := Lib.hid hl2
  clear hp2 hb2 hl2 xf
  refine (CR.out w2 Hp2.out).mono ?_
  rintro e w' ⟨rfl, rfl⟩
  go_wp2_with fail
  have hf4 : Fr (At g) w2 (w2.setCell ⟨g, 4, none⟩ (.string (str (zeros N)))) := (Fr.refl _ _).set _ _ (fun _ => rfl)
  have hl4 := Hl2.out.set4 (.string (str (zeros N)))
  generalize w2.setCell ⟨g, 4, none⟩ (.string (str (zeros N))) = w4 at *
  have Hl4 := Lib.hid hl4
  have Hp4 := Lib.hid (Fr.new Hp2.out hf4 hgw)
  clear hf4 hl4 x4 xf4 Hl2 hgl
  refine (CT.out w4 g Hl4.out).mono ?_
  rintro e w5 ⟨rfl, hp5⟩
  have Hl5 := Lib.hid (Hl4.out.fr hp5 (fun h => h))
  have Hp5 := Lib.hid (Hp4.out.pu hp5)
  clear hp5
  go_wp2_with fail
  refine (refEnd Hl5.out).mono ?_
  rintro e w6 ⟨rfl, hp6⟩
  have Hl6 := Lib.hid (Hl5.out.fr hp6 (fun h => h))
  have Hp6 := Lib.hid (Hp5.out.pu hp6)
  clear hp6 Hl5 Hl4
  go_wp2_with fail
  have hL : LB w6 g (.pointer (some ⟨gd, 0, none⟩)) (.int .i64 f) (.int .i64 s) (.int .i64 size) (.string (str (zeros N))) (.slice none 0 0) (.string (str (zeros 32))) (.bool false) (.bool false) w6 := LB.of Hl6.out (Fr.refl _ _)
  have hgl6 := blk_lt Hl6.out
  obtain ⟨-, -, -, -, x4, -, -, -, -, -, -, xf⟩ := Hl6.out.cells
  have xf4 := xf 4
  clear xf
  go_region_law (fail)
  all_goals
    have hHeld := LB.drew (LB.alloc (.cells (zrow N) 5) (LB.set hL))
    obtain ⟨-, -, hl7, hf7⟩ := hHeld
    clear hL x4 xf4
    generalize ((w6.setCell ⟨g, 4, none⟩ (.string (str (zeros N)))).alloc (.cells (zrow N) 5)).drew = w7 at *
    have Hp7 := Lib.hid (Fr.new Hp6.out hf7 hgw)
    have Hl7 := Lib.hid hl7
    obtain ⟨-, -, -, -, x4, -, -, -, -, -, -, -⟩ := hl7.cells
    have hgl7 := blk_lt hl7
    clear hl7 hf7 hmk hzs hzd
    go_wp2_with fail
    refine (CW.out _ (Hr.out.pu Hp7.out)).mono ?_
    rintro e w8 ⟨rfl, hr8, hf8⟩
    have hggd : g ≠ gd := by omega
    have Hl8 := Lib.hid (Hl7.out.fr hf8 hggd)
    have Hf8 := Lib.hid ((Hp7.out.any : Fr (At gd) w w7).trans hf8 (fun _ _ h => h))
    have Hr8 := Lib.hid hr8
    clear hr8 hf8 x4 hgl7 Hl7
    go_wp2_with fail
    refine (CF.out _ Hr8.out).mono ?_
    rintro e w9 ⟨rfl, hr9, hf9⟩
    have hl9 := Hl8.out.fr hf9 hggd
    have Hf9 := Lib.hid (Hf8.out.trans hf9 (fun _ _ h => h))
    have Hr9 := Lib.hid hr9
    obtain ⟨-, -, -, -, -, -, -, x7, x8, -, x10, xf⟩ := hl9.cells
    have hgl9 := blk_lt hl9
    have Hb9 := Lib.hid hl9
    clear hr9 hf9 hl9 Hl8 Hr8 Hf8
    go_wp2
    go_ret2
    have hfs : Fr (At g) w9 ((w9.setCell ⟨g, 10, none⟩ (.int .i64 0)).setCell ⟨g, 7, none⟩ (.int .i64 0)) := ((Fr.refl (At g) w9).set ⟨g, 10, none⟩ _ (fun _ => rfl)).set ⟨g, 7, none⟩ _ (fun _ => rfl)
    have hbs : ((w9.setCell ⟨g, 10, none⟩ (.int .i64 0)).setCell ⟨g, 7, none⟩ (.int .i64 0)).heap[g]? = w9.heap[g]? := by
      have h1 := Hb9.out
      unfold LogR at h1
      simp only [World.setCell, Array.getElem?_modify, if_pos, h1, Option.map_some]
      rfl
    generalize (w9.setCell ⟨g, 10, none⟩ (.int .i64 0)).setCell ⟨g, 7, none⟩ (.int .i64 0) = w10 at *
    have hpz : Pu w9 w10 := ⟨hfs.os, hfs.tape, hfs.output, hfs.size, fun k hk _ => by
      by_cases e : k = g
      · subst e; exact hbs
      · exact hfs.block k hk e⟩
    exact ⟨g, rfl, (hpz.pcell g 8 hgl9).trans x8, hgw, Hr9.out.pu hpz, Hf9.out.pu' hpz⟩
end Go.Proofs.YtaendhbiehknlaaGreatDoor
