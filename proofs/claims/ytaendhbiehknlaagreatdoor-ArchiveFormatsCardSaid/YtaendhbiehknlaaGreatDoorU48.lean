/- What is proved here, of the given program: The statement's own: awake. -/
import Derived.Test.YtaendhbiehknlaaGreatDoorU47
set_option linter.unusedVariables false
set_option linter.unusedSimpArgs false
set_option linter.constructorNameAsVariable false
namespace Go.Proofs.YtaendhbiehknlaaGreatDoor
open Go.RowKit Go.Shelf Go.Proofs

abbrev K2 (w1 : World) (r g : Nat) (x y : Value) (w' : World) : Prop := w'.cell? ⟨r, 1, none⟩ = some x ∧ w'.cell? ⟨g, 6, none⟩ = some y ∧ Fr (At g) w1 w'
theorem K2.pu {w1 : World} {r g : Nat} {x y : Value} {w w' : World} (hp : Pu w w') (h : K2 w1 r g x y w) : K2 w1 r g x y w' := by
  obtain ⟨h0, h1, h2⟩ := h
  have hr : r < w.heap.size := World.block_lt_of_cell? w _ h0
  have hg : g < w.heap.size := World.block_lt_of_cell? w _ h1
  exact ⟨(hp.pcell r _ hr).trans h0, (hp.pcell g _ hg).trans h1, h2.pu' hp⟩
theorem K2.drew {w1 : World} {r g : Nat} {x y : Value} {w : World} (h : K2 w1 r g x y w) : K2 w1 r g x y w.drew := K2.pu ((Fr.refl No w).drew) h
theorem K2.alloc {w1 : World} {r g : Nat} {x y : Value} {w : World} (o : Obj) (h : K2 w1 r g x y w) : K2 w1 r g x y (w.alloc o) := K2.pu ((Fr.refl No w).alloc o) h
theorem K2.set {w1 : World} {r g : Nat} {x y : Value} {w : World} (k i : Nat) (v : Value) (hk : w1.heap.size ≤ k) (hr : r < w1.heap.size) (hg : g < w1.heap.size) (h : K2 w1 r g x y w) : K2 w1 r g x y (w.setCell ⟨k, i, none⟩ v) := by
  obtain ⟨h0, h1, h2⟩ := h
  have kk : ∀ m o, m ≠ k → (w.setCell ⟨k, i, none⟩ v).cell? ⟨m, o, none⟩ = w.cell? ⟨m, o, none⟩ := fun m o hm => World.cell?_of_block (a := ⟨m, o, none⟩) (Below.heap_setCell _ _ _ _ hm)
  exact ⟨(kk _ _ (by omega)).trans h0, (kk _ _ (by omega)).trans h1, h2.set ⟨k, i, none⟩ v (fun h => absurd h (by show ¬ k < w1.heap.size; omega))⟩
theorem K2.arch {w1 : World} {r g : Nat} {x y : Value} {w w' : World} {t per keep : Int} {A : Option Addr} {n c : Nat} {lg kt ld : Option Addr} {mp : Option Nat} {dr dq : Option Addr} (h : K2 w1 r g x y w) (hrg : r ≠ g) (hf : Fr (At g) w w') (ha : ArchT w' g t per keep A n c lg kt ld mp dr dq) : K2 w1 r g x (.int .i64 t) w' := by
  obtain ⟨h0, h1, h2⟩ := h
  have hr : r < w.heap.size := World.block_lt_of_cell? w _ h0
  exact ⟨(hf.cell r _ hr hrg).trans h0, (archT_cells ha).2.2.2.2.2.2.1, h2.trans hf (fun _ _ h => h)⟩
theorem zs32 (w : World) (S : Nat → Prop) (hS : ∀ k, w.heap.size ≤ k → S k) : Bs S (w.alloc (.cells (zrow 32) 5)) (.slice (some ⟨w.heap.size, 0, none⟩) 32 32) (zeros 32) := (Bs.own (zrow_own w 32 w.heap.size (Nat.le_refl _) (by omega))).mono (fun k _ hk => hS k hk)
theorem keys_ok : rightPublic (pow61 3 (leafK (zeros 32))) = true ∧ rightPublic (pow61 3 (initK (zeros 32))) = true := by
  have h := keys_right
  rw [Bool.and_eq_true] at h
  exact h
set_option maxRecDepth 100000 in
set_option maxHeartbeats 2000000 in
theorem lawAwake (w : World) (hG : Globs w) (hE : ErrG w) : Calls Tryz.prog 4 #[] w fun e w' => e = .returned (.bool true) ∧ Pu w w' := by
  have HG := Lib.hid hG
  have HE := Lib.hid hE
  clear hG hE
  go_enter Tryz.func4, Tryz.ntmps4
  go_wp2_with fail
  refine (lawOpened w).mono ?_
  rintro e w1 ⟨r, g, lg, kt, ld, dq, rfl, hr1, ha1, hgw, hrg, hp1⟩
  obtain ⟨⟨A, c, mp, ha, hnm⟩, hlg, hld, hdq, hn1, hn2, hn3⟩ := ha1
  have hrl := World.block_lt_of_cell? w1 _ hr1
  have hrl : r < w1.heap.size := hrl
  have Hr1 := Lib.hid hr1
  have Ha1 := Lib.hid (show ArchT w1 g 0 10 5 A arcT.length c (some ⟨lg, 0, none⟩) (some ⟨kt, 0, none⟩) (some ⟨ld, 0, none⟩) mp none (some ⟨dq, 0, none⟩) from ha)
  have Hnm1 := Lib.hid hnm
  have Hlg1 := Lib.hid hlg
  have Hdq1 := Lib.hid hdq
  have Hp1 := Lib.hid hp1
  have hgl1 := blk_lt ha
  clear ha hnm hlg hld hdq hp1
  go_wp2_with fail
  refine (archTick Ha1.out Hdq1.out hn3).mono ?_
  rintro e w2 ⟨rfl, ha2, hf2⟩
  have hr2 := (hf2.cell r 1 hrl hrg).trans Hr1.out
  have hrl2 : r < w2.heap.size := World.block_lt_of_cell? w2 _ hr2
  have Ha2 := Lib.hid ha2
  have Hlg2 := Lib.hid (Hlg1.out.fr hf2 (fun e => hn1 e.symm))
  have Hnm2 := Lib.hid (Hnm1.out.fr hf2 (fun k _ hk e => hk e))
  have Hp2 := Lib.hid (fr_pu Hp1.out hgw hf2)
  clear hr1 ha2 hf2 Ha1 Hlg1 Hnm1 Hdq1 Hp1 hgl1 hrl
  go_wp2_with fail
  refine (archNow Ha2.out).mono ?_
  rintro e w' ⟨rfl, rfl⟩
  go_wp2_with fail
  refine (archTexts Ha2.out Hlg2.out).mono ?_
  rintro e w' ⟨rfl, rfl⟩
  go_wp2_with fail
  have x6 := (archT_cells Ha2.out).2.2.2.2.2.2.1
  have hgl2 := blk_lt Ha2.out
  have hmk : ∀ W, (Instr.makeSlice 23 (.int .i64 32) (.int .i64 32)).run Tryz.prog W = .ok (.slice (some ⟨W.heap.size, 0, none⟩) 32 32) (W.alloc (.cells (zrow 32) 5)) := run_zrow 32 (by omega)
  have hL : K2 w2 r g (.pointer (some ⟨g, 0, none⟩)) (.int .i64 7) w2 := ⟨hr2, x6, Fr.refl _ _⟩
  go_region_held3 (fun w' => w'.cell? ⟨r, 1, none⟩ = some (.pointer (some ⟨g, 0, none⟩)) ∧ w'.cell? ⟨g, 6, none⟩ = some (.int .i64 7) ∧ Fr (At g) w2 w')
    (first | with_reducible exact hL | with_reducible exact hk | with_reducible exact K2.drew hL | with_reducible exact K2.drew (K2.alloc _ hL) | with_reducible exact K2.drew (K2.alloc _ (K2.alloc _ hL)) | with_reducible exact K2.alloc _ (by assumption) | with_reducible exact K2.drew (by assumption) | with_reducible exact K2.set _ _ _ (by first | omega | (simp; omega)) hrl2 hgl2 (K2.set _ _ _ (by first | omega | (simp; omega)) hrl2 hgl2 (K2.set _ _ _ (by first | omega | (simp; omega)) hrl2 hgl2 (by assumption))))
    (first
      | (go_at_call 18; have Cx := (archPackage (Ha2.out.fr (((Fr.refl No w2).alloc (.cells (zrow 32) 5)).drew) (fun h => h)) arcT (Hnm2.out.pu (((Fr.refl No w2).alloc (.cells (zrow 32) 5)).drew)) (by decide) (.slice (some ⟨w2.heap.size, 0, none⟩) 32 32) (zeros 32) Tr ((HG.out.pu Hp2.out).pu (((Fr.refl No w2).alloc (.cells (zrow 32) 5)).drew)) ((zs32 w2 Tr (fun _ _ => trivial)).pu ((Fr.refl No _).drew)) (zeros_length _) keys_ok.1 keys_ok.2); (with_reducible refine Cx.mono ?_); clear Cx; rintro e w3 ⟨A6, c6, x6, y6, rfl, ⟨dr', ha3⟩, hf3⟩; have hk := K2.arch (w1 := w2) (r := r) (x := .pointer (some ⟨g, 0, none⟩)) (y := .int .i64 7) (by assumption) hrg hf3 ha3; have hsz3 := hf3.size; clear ha3 hf3)
      | (go_at_call 18; have Cx := (archPackage (Ha2.out.fr ((((Fr.refl No w2).alloc (.cells (zrow 32) 5)).alloc (.cells #[.slice none 0 0, .int .u64 0, .int .u64 0] 67)).drew) (fun h => h)) arcT (Hnm2.out.pu ((((Fr.refl No w2).alloc (.cells (zrow 32) 5)).alloc (.cells #[.slice none 0 0, .int .u64 0, .int .u64 0] 67)).drew)) (by decide) (.slice (some ⟨w2.heap.size, 0, none⟩) 32 32) (zeros 32) Tr ((HG.out.pu Hp2.out).pu ((((Fr.refl No w2).alloc (.cells (zrow 32) 5)).alloc (.cells #[.slice none 0 0, .int .u64 0, .int .u64 0] 67)).drew)) ((zs32 w2 Tr (fun _ _ => trivial)).pu (((Fr.refl No (w2.alloc (.cells (zrow 32) 5))).alloc (.cells #[.slice none 0 0, .int .u64 0, .int .u64 0] 67)).drew)) (zeros_length _) keys_ok.1 keys_ok.2); (with_reducible refine Cx.mono ?_); clear Cx; rintro e w3 ⟨A6, c6, x6, y6, rfl, ⟨dr', ha3⟩, hf3⟩; have hk := K2.arch (w1 := w2) (r := r) (x := .pointer (some ⟨g, 0, none⟩)) (y := .int .i64 7) (by assumption) hrg hf3 ha3; have hsz3 := hf3.size; have hn := (hf3.block (w2.heap.size + 1) (by simp) (fun e => by have e : w2.heap.size + 1 = g := e; omega)).trans (show ((w2.alloc (.cells (zrow 32) 5)).alloc (.cells #[.slice none 0 0, .int .u64 0, .int .u64 0] 67)).drew.heap[w2.heap.size + 1]? = some (.cells #[.slice none 0 0, .int .u64 0, .int .u64 0] 67 (0, 0)) from by have h9 := heap_alloc_new (w2.alloc (.cells (zrow 32) 5)) (.cells #[.slice none 0 0, .int .u64 0, .int .u64 0] 67); rw [show (w2.alloc (.cells (zrow 32) 5)).heap.size = w2.heap.size + 1 by simp] at h9; exact h9); obtain ⟨q0, q1, q2, qf⟩ := block3 hn; have hnl := blk_lt hn; clear hn; clear ha3 hf3)
      | (go_at_call 18; have Cx := (archPackage (Ha2.out.fr ((((Fr.refl No w2).alloc (.cells #[.slice none 0 0, .int .u64 0, .int .u64 0] 67)).alloc (.cells (zrow 32) 5)).drew) (fun h => h)) arcT (Hnm2.out.pu ((((Fr.refl No w2).alloc (.cells #[.slice none 0 0, .int .u64 0, .int .u64 0] 67)).alloc (.cells (zrow 32) 5)).drew)) (by decide) (.slice (some ⟨w2.heap.size + 1, 0, none⟩) 32 32) (zeros 32) Tr ((HG.out.pu Hp2.out).pu ((((Fr.refl No w2).alloc (.cells #[.slice none 0 0, .int .u64 0, .int .u64 0] 67)).alloc (.cells (zrow 32) 5)).drew)) (show Bs Tr ((w2.alloc (.cells #[.slice none 0 0, .int .u64 0, .int .u64 0] 67)).alloc (.cells (zrow 32) 5)).drew (.slice (some ⟨w2.heap.size + 1, 0, none⟩) 32 32) (zeros 32) from by have h9 := zs32 (w2.alloc (.cells #[.slice none 0 0, .int .u64 0, .int .u64 0] 67)) Tr (fun _ _ => trivial); rw [show (w2.alloc (.cells #[.slice none 0 0, .int .u64 0, .int .u64 0] 67)).heap.size = w2.heap.size + 1 by simp] at h9; exact h9) (zeros_length _) keys_ok.1 keys_ok.2); (with_reducible refine Cx.mono ?_); clear Cx; rintro e w3 ⟨A6, c6, x6, y6, rfl, ⟨dr', ha3⟩, hf3⟩; have hk := K2.arch (w1 := w2) (r := r) (x := .pointer (some ⟨g, 0, none⟩)) (y := .int .i64 7) (by assumption) hrg hf3 ha3; have hsz3 := hf3.size; have hn := (hf3.block w2.heap.size (by simp; omega) (fun e => by have e : w2.heap.size = g := e; omega)).trans (show ((w2.alloc (.cells #[.slice none 0 0, .int .u64 0, .int .u64 0] 67)).alloc (.cells (zrow 32) 5)).drew.heap[w2.heap.size]? = some (.cells #[.slice none 0 0, .int .u64 0, .int .u64 0] 67 (0, 0)) from (heap_alloc_old _ _ _ (by simp)).trans (heap_alloc_new w2 (.cells #[.slice none 0 0, .int .u64 0, .int .u64 0] 67))); obtain ⟨q0, q1, q2, qf⟩ := block3 hn; have hnl := blk_lt hn; clear hn; clear ha3 hf3))
  all_goals
    rename_i hHeld
    obtain ⟨hR, hC6, hF⟩ := hHeld
    have HPz := Lib.hid (fr_pu Hp2.out hgw hF)
    have HC6 := Lib.hid hC6
    have hrz := World.block_lt_of_cell? _ _ hR
    clear hF hC6 hk hL hr2
    go_wp2_with fail
    refine (archDeliverNil g 7 _ HC6.out).mono ?_
    rintro e w4 ⟨v, rfl, he, hp4⟩
    have HP4 := Lib.hid (HPz.out.pu hp4)
    have He := Lib.hid he
    clear he hp4
    go_wp2_with fail
    rw [archTs]
    refine (lawCode v archT 7 [] 12 w4 He.out (by decide) (HE.out.pu HP4.out)).mono ?_
    rintro e w5 ⟨rfl, hp5⟩
    have HP5 := Lib.hid (HP4.out.pu hp5)
    clear hp5
    go_wp2
    go_ret
    exact ⟨rfl, HP5.out⟩
end Go.Proofs.YtaendhbiehknlaaGreatDoor
