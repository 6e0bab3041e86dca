/- What is proved here, of the given program: The archive: Open of a formatted disk. The archive: Format. -/
import Derived.Test.YtaendhbiehknlaaGreatDoorU37
set_option linter.unusedVariables false
set_option linter.unusedSimpArgs false
set_option linter.constructorNameAsVariable false
namespace Go.Proofs.YtaendhbiehknlaaGreatDoor
open Go.RowKit Go.Shelf Go.Proofs

theorem ArchAt.set6 {w : World} {g : Nat} {per keep : Int} {A : Option Addr} {n c : Nat} {lg kt ld : Option Addr} {mp : Option Nat} {dr dq : Option Addr} (h : ArchAt w g per keep A n c lg kt ld mp dr dq) : ArchAt (w.setCell ⟨g, 6, none⟩ (.int .i64 0)) g per keep A n c lg kt ld mp dr dq := by
  unfold ArchAt at h ⊢
  simp only [World.setCell, Array.getElem?_modify, if_pos, h, Option.map_some]
  rfl
/-- An archive that is new. -/
structure ArchNew (w : World) (g : Nat) (per keep : Int) (name : Bytes) (lg kt ld dq : Nat) : Prop where
  at_ : ∃ A c mp, ArchAt w g per keep A name.length c (some ⟨lg, 0, none⟩) (some ⟨kt, 0, none⟩) (some ⟨ld, 0, none⟩) mp none (some ⟨dq, 0, none⟩) ∧ Bs (fun k => k ≠ g) w (.slice A name.length c) name
  log : LogNil w lg
  led : LedNil w ld
  due : DueNil w dq
  ne : g ≠ lg ∧ g ≠ ld ∧ g ≠ dq
theorem DueNil.fr {w w1 : World} {S : Nat → Prop} {g : Nat} (h : DueNil w g) (hf : Fr S w w1) (hg : ¬ S g) : DueNil w1 g := (hf.cell g _ h.lt hg).trans h
set_option maxRecDepth 100000 in
set_option maxHeartbeats 2000000 in
theorem archOpenOk (gd : Nat) (per keep : Int) (A : Option Addr) (c : Nat) (name : Bytes) (S : Nat → Prop) (w : World) (hv : Bs S w (.slice A name.length c) name) (hn : name.length ≤ 1000) (hpol : polRight per keep name.length = true) (img : Bytes) (calls : Int) (slots segs size : Nat) (hd : DiskNil w gd img calls) (hl : img.length ≤ 17592186044416) (hc : calls < 0) (ht : 2 + 2 * slots + segs * size ≤ img.length / 128) (hs : (Sup.mk 2 1 slots segs size).right = true) (hnw : newestSup (img.take 256) = some ⟨1, 0, slots, segs, size⟩) (hz1 : ((patch img 0 (Sup.mk 2 1 slots segs size).bytes).drop (2 * 128)).take (2 * slots * 128) = zeros (2 * slots * 128)) (hz2 : ((patch img 0 (Sup.mk 2 1 slots segs size).bytes).drop ((2 + 2 * slots) * 128)).take (segs * size * 128) = zeros (segs * size * 128)) :
    Calls Tryz.prog 10 #[.pointer (some ⟨gd, 0, none⟩), .agg #[.int .i64 per, .int .i64 keep, .slice A name.length c]] w fun en w' => ∃ g lg kt ld dq, en = .returned (.tuple #[.pointer (some ⟨g, 0, none⟩), .nilIface]) ∧ ArchNew w' g per keep name lg kt ld dq ∧ w.heap.size ≤ g ∧ gd ≠ g ∧ DiskNil w' gd (patch img 0 (Sup.mk 2 1 slots segs size).bytes) calls ∧ Fr (At gd) w w' := by
  have Hpol := Lib.hid hpol
  have hgdl : gd < w.heap.size := hd.at_.lt
  obtain ⟨_, _, b1, _, _⟩ := (Sup.right_iff _).1 hs
  dsimp only at b1
  have HC := Lib.hid (fun (g : Nat) (A1 : Option Addr) (c1 : Nat) (mp : Option Nat) (dq : Option Addr) (W : World) (hW : Pu w W) (hA : ArchAt W g per keep A1 name.length c1 none none none mp none dq) (hg : gd ≠ g) => archLoad g gd per keep A1 name.length c1 mp none dq img calls slots segs size W hA (hd.pu hW) hg hl hc ht hs hnw hz1 hz2)
  generalize patch img 0 (Sup.mk 2 1 slots segs size).bytes = img2 at *
  clear hpol hd ht hs hnw hz1 hz2
  have hmm := @run_makeMap Tryz.prog
  have Hv := Lib.hid hv
  clear hv
  go_enter Tryz.func10, Tryz.ntmps10
  go_wp2_with fail
  have hp0 : Pu w (w.alloc (.cells #[.int .i64 per, .int .i64 keep, .slice A name.length c] 25)) := (Fr.refl _ _).alloc _
  have hb0 := heap_alloc_new w (.cells #[.int .i64 per, .int .i64 keep, .slice A name.length c] 25)
  generalize w.alloc (.cells #[.int .i64 per, .int .i64 keep, .slice A name.length c] 25) = w0 at *
  refine (cloneBytes _ name S w0 (Hv.out.pu hp0) (by omega)).mono ?_
  rintro en w1 ⟨v1, rfl, ho1, hp1⟩
  obtain ⟨A1, c1, rfl, -, -⟩ := own_shape2 ho1
  have Hb1 := Lib.hid ((hp1.block _ (blk_lt hb0) (fun h => h)).trans hb0)
  have Hp1 := Lib.hid (hp0.pu hp1)
  have Hnm1 := Lib.hid (show Bs (fun k => w.heap.size < k ∧ k < w1.heap.size) w1 (.slice A1 name.length c1) name from (Bs.of_own ho1).mono (fun k _ hk => ⟨Nat.lt_of_lt_of_le (blk_lt hb0) (own_lt ho1 k hk).1, (own_lt ho1 k hk).2⟩))
  clear hp0 hb0 hp1 ho1
  obtain ⟨y0, y1, y2, yf⟩ := block3 Hb1.out
  have hyl := blk_lt Hb1.out
  go_wp2_with fail
  have hfs : Fr (At w.heap.size) w1 (w1.setCell ⟨w.heap.size, 2, none⟩ (.slice A1 name.length c1)) := (Fr.refl _ _).set _ _ (fun _ => rfl)
  have hb2 := set2of3 (.slice A1 name.length c1) Hb1.out
  generalize w1.setCell ⟨w.heap.size, 2, none⟩ (.slice A1 name.length c1) = w2 at *
  have Hp2 := Lib.hid (Fr.new Hp1.out hfs (Nat.le_refl _))
  have hyl2 := blk_lt hb2
  have Hnm2 := Lib.hid (show Bs (fun k => w.heap.size < k ∧ k < w2.heap.size) w2 (.slice A1 name.length c1) name from (Hnm1.out.fr hfs (fun k _ hk e => by have e : k = w.heap.size := e; omega)).mono (fun k _ hk => ⟨hk.1, Nat.lt_of_lt_of_le hk.2 hfs.size⟩))
  clear Hnm1
  clear y0 y1 y2 yf
  obtain ⟨y0, y1, y2, yf⟩ := block3 hb2
  have hL : P3 w2 w.heap.size (.int .i64 per) (.int .i64 keep) (.slice A1 name.length c1) w2 := ⟨y0, y1, y2, Fr.refl _ _⟩
  clear hfs hb2 Hb1 Hp1 hyl yf
  go_region_held3 (fun w' => w'.cell? ⟨w.heap.size, 0, none⟩ = some (.int .i64 per) ∧ w'.cell? ⟨w.heap.size, 1, none⟩ = some (.int .i64 keep) ∧ w'.cell? ⟨w.heap.size, 2, none⟩ = some (.slice A1 name.length c1) ∧ Pu w2 w')
    (first | with_reducible exact hL | with_reducible exact hk | with_reducible exact P3.drew hL | with_reducible exact P3.drew (P3.alloc _ hL) | with_reducible exact P3.alloc _ (by assumption) | with_reducible exact P3.drew (by assumption) | with_reducible exact P3.drew (P3.alloc _ (by assumption)))
    (first
      | (go_at_call 34; refine (dueNewNil _).mono ?_; rintro e w3 ⟨dq, rfl, hdq3, hsd3, hp3⟩; have hk := P3.pu (w1 := w2) (b := w.heap.size) (x := .int .i64 per) (y := .int .i64 keep) (z := .slice A1 name.length c1) hp3 (by assumption); have Hdq3 := Lib.hid hdq3; have Hp3 := Lib.hid hp3; clear hdq3 hp3))
  all_goals
    rename_i hHeld
    obtain ⟨z0, z1, z2, hpw⟩ := hHeld
    clear hL y0 y1 y2 hk
  all_goals
    first
      | (have HPW2 := Lib.hid ((show Pu w2 (w3.alloc (.cells #[.int .i64 per, .int .i64 keep, .slice A1 name.length c1, .pointer none, .pointer none, .pointer none, .int .i64 0, .map (some w2.heap.size), .pointer none, .pointer (some ⟨dq, 0, none⟩)] 101)) from by with_reducible exact hpw)); clear hpw; have HPW := Lib.hid (Hp2.out.pu HPW2.out); have HA0 := heap_alloc_new w3 (.cells #[.int .i64 per, .int .i64 keep, .slice A1 name.length c1, .pointer none, .pointer none, .pointer none, .int .i64 0, .map (some w2.heap.size), .pointer none, .pointer (some ⟨dq, 0, none⟩)] 101); have HQ := Lib.hid (Hdq3.out.pu ((Fr.refl _ w3).alloc (.cells #[.int .i64 per, .int .i64 keep, .slice A1 name.length c1, .pointer none, .pointer none, .pointer none, .int .i64 0, .map (some w2.heap.size), .pointer none, .pointer (some ⟨dq, 0, none⟩)] 101))); generalize hW : w3.alloc (.cells #[.int .i64 per, .int .i64 keep, .slice A1 name.length c1, .pointer none, .pointer none, .pointer none, .int .i64 0, .map (some w2.heap.size), .pointer none, .pointer (some ⟨dq, 0, none⟩)] 101) = W at *; have hgs : w2.heap.size ≤ w3.heap.size := Nat.le_trans (by simp) Hp3.out.size; have HA := Lib.hid (show ArchAt W w3.heap.size per keep A1 name.length c1 none none none (some w2.heap.size) none (some ⟨dq, 0, none⟩) from HA0); generalize w3.heap.size = g at *; generalize (some w2.heap.size) = mp at *; have hdqs : w2.heap.size ≤ dq := (by first | exact hsd3 | exact Nat.le_trans (by simp) hsd3); clear hW Hp3 Hdq3 hsd3 HA0)
      | (have HPW2 := Lib.hid ((show Pu w2 ((w3.alloc (Obj.map #[] 0)).alloc (.cells #[.int .i64 per, .int .i64 keep, .slice A1 name.length c1, .pointer none, .pointer none, .pointer none, .int .i64 0, .map (some w3.heap.size), .pointer none, .pointer (some ⟨dq, 0, none⟩)] 101)) from by with_reducible exact hpw)); clear hpw; have HPW := Lib.hid (Hp2.out.pu HPW2.out); have HA0 := heap_alloc_new (w3.alloc (Obj.map #[] 0)) (.cells #[.int .i64 per, .int .i64 keep, .slice A1 name.length c1, .pointer none, .pointer none, .pointer none, .int .i64 0, .map (some w3.heap.size), .pointer none, .pointer (some ⟨dq, 0, none⟩)] 101); have HQ := Lib.hid (Hdq3.out.pu (((Fr.refl _ w3).alloc (Obj.map #[] 0)).alloc (.cells #[.int .i64 per, .int .i64 keep, .slice A1 name.length c1, .pointer none, .pointer none, .pointer none, .int .i64 0, .map (some w3.heap.size), .pointer none, .pointer (some ⟨dq, 0, none⟩)] 101))); generalize hW : (w3.alloc (Obj.map #[] 0)).alloc (.cells #[.int .i64 per, .int .i64 keep, .slice A1 name.length c1, .pointer none, .pointer none, .pointer none, .int .i64 0, .map (some w3.heap.size), .pointer none, .pointer (some ⟨dq, 0, none⟩)] 101) = W at *; rw [show (w3.alloc (Obj.map #[] 0)).heap.size = w3.heap.size + 1 by simp] at HA0; have hgs : w2.heap.size ≤ w3.heap.size + 1 := Nat.le_succ_of_le Hp3.out.size; have HA := Lib.hid (show ArchAt W (w3.heap.size + 1) per keep A1 name.length c1 none none none (some w3.heap.size) none (some ⟨dq, 0, none⟩) from HA0); generalize w3.heap.size + 1 = g at *; generalize (some w3.heap.size) = mp at *; have hdqs : w2.heap.size ≤ dq := (by first | exact hsd3 | exact Nat.le_trans (by simp) hsd3); clear hW Hp3 Hdq3 hsd3 HA0)
    have hgl := blk_lt HA.out
    obtain ⟨x0, x1, x2, x3, x4, x5, x6, x8, x9, xf⟩ := arch_cells HA.out
    have Hnm := Lib.hid (show Bs (fun k => k ≠ g ∧ k ≠ gd) W (.slice A1 name.length c1) name from (Hnm2.out.mono (fun k _ hk => show k ≠ g ∧ k ≠ gd from ⟨by omega, by omega⟩)).pu HPW2.out)
    have hgd : gd ≠ g := by omega
    have hwg : w.heap.size ≤ g := by omega
    have hdqg : dq ≠ g := by intro e; subst e; have h9 := HQ.out; unfold DueNil at h9; rw [x0] at h9; cases h9
    clear Hnm2 HPW2
    go_wp2_with fail
    refine (archRight per keep A1 name.length c1 W).mono ?_
    rintro en w4 ⟨rfl, hp4⟩
    rw [Hpol.out]
    have HP4 := Lib.hid (HPW.out.pu hp4)
    have HA4 := Lib.hid (HA.out.fr hp4 (fun h => h))
    have HQ4 := Lib.hid (HQ.out.pu hp4)
    have Hnm4 := Lib.hid (Hnm.out.pu hp4)
    clear hp4 x0 x1 x2 x3 x4 x5 x6 x8 x9 xf z0 z1 z2 HA HPW HQ Hnm hgl
    go_wp2_with fail
    refine (HC.out g A1 c1 mp (some ⟨dq, 0, none⟩) w4 HP4.out HA4.out hgd).mono ?_
    rintro en w5 ⟨lg, kt, ld, rfl, ha5, hl5, ht5, hld5, hd5, hf5, hslg, hsld⟩
    have hgl4 := blk_lt HA4.out
    have hdqd : dq ≠ gd := by omega
    have hlgg : lg ≠ g := by omega
    have hldg : ld ≠ g := by omega
    have HA5 := Lib.hid ha5
    have HL5 := Lib.hid hl5
    have HT5 := Lib.hid ht5
    have HLD5 := Lib.hid hld5
    have HD5 := Lib.hid hd5
    have HQ5 := Lib.hid (HQ4.out.fr hf5 (fun e => by rcases e with e | e <;> omega))
    have Hnm5 := Lib.hid (Hnm4.out.fr hf5 (fun k _ hk e => by rcases e with e | e; exact hk.1 e; exact hk.2 e))
    have HF5 := Lib.hid ((HP4.out.any : Fr (At gd) w w4).trans hf5 (fun k hk e => by rcases e with e | e; omega; exact e))
    clear ha5 hl5 ht5 hld5 hd5 hf5 HA4 HQ4 Hnm4 HP4 HC
    obtain ⟨-, -, -, -, x4, -, -, -, -, -⟩ := arch_cells HA5.out
    have hgl5 := blk_lt HA5.out
    go_wp2_with fail
    refine (keysBucketsZero kt slots w5 HT5.out (by omega)).mono ?_
    rintro en w6 ⟨rfl, hp6⟩
    have HA6 := Lib.hid (HA5.out.fr hp6 (fun h => h))
    have HL6 := Lib.hid (HL5.out.pu hp6)
    have HLD6 := Lib.hid (HLD5.out.pu hp6)
    have HQ6 := Lib.hid (HQ5.out.pu hp6)
    have HD6 := Lib.hid (HD5.out.pu hp6)
    have Hnm6 := Lib.hid (Hnm5.out.pu hp6)
    have HF6 := Lib.hid (HF5.out.pu hp6)
    clear hp6 HA5 HL5 HT5 HLD5 HD5 HQ5 Hnm5 HF5 x4 hgl5
    obtain ⟨-, -, -, -, -, x5, x6, -, -, xf⟩ := arch_cells HA6.out
    have hgl6 := blk_lt HA6.out
    go_wp2_with fail
    refine wp_loop_rounds 1 ?_
    rw [rounds_succ]
    go_wp2_with fail
    refine (ledgerTime ld w6 HLD6.out).mono ?_
    rintro en w7 ⟨rfl, rfl⟩
    go_wp2_with fail
    have hfs : Fr (At g) w6 (w6.setCell ⟨g, 6, none⟩ (.int .i64 0)) := (Fr.refl _ _).set _ _ (fun _ => rfl)
    have hat := HA6.out.set6
    generalize w6.setCell ⟨g, 6, none⟩ (.int .i64 0) = w8 at *
    go_ret2
    exact ⟨g, lg, kt, ld, dq, rfl, ⟨⟨A1, c1, mp, hat, (Hnm6.out.fr hfs (fun k _ hk e => hk.1 e)).mono (fun k _ hk => hk.1)⟩, HL6.out.fr hfs hlgg, HLD6.out.fr hfs hldg, HQ6.out.fr hfs hdqg, ⟨fun e => hlgg e.symm, fun e => hldg e.symm, fun e => hdqg e.symm⟩⟩, hwg, hgd, HD6.out.away HA6.out HA6.out.noU8 hgd hfs, HF6.out.trans hfs (fun k hk e => by have e : k = g := e; omega)⟩
end Go.Proofs.YtaendhbiehknlaaGreatDoor

namespace Go.Proofs.YtaendhbiehknlaaGreatDoor
open Go.RowKit Go.Shelf Go.Proofs

set_option maxRecDepth 100000 in
theorem archFormatNil (a b c : Int) (w : World) :
    Calls Tryz.prog 8 #[.pointer none, .int .i64 a, .int .i64 b, .int .i64 c] w fun en w' => ∃ v, en = .returned v ∧ ErrIs w' v [(archT, 0)] 1 ∧ Pu w w' := by
  go_enter Tryz.func8, Tryz.ntmps8
  go_wp2_with fail
  rw [archTs]
  refine (faultWrap archT 0 1 _ (by decide)).mono ?_
  rintro en w1 ⟨v, rfl, he, hp⟩
  go_wp2
  go_ret
  exact ⟨v, rfl, he, ((Fr.refl _ _).alloc _).pu hp⟩
set_option maxRecDepth 100000 in
theorem archFormatBad (gd : Nat) (a b c : Int) (w : World) (hs : (Sup.mk 1 0 a b c).right = false) :
    Calls Tryz.prog 8 #[.pointer (some ⟨gd, 0, none⟩), .int .i64 a, .int .i64 b, .int .i64 c] w fun en w' => ∃ v, en = .returned v ∧ ErrIs w' v [(archT, 0)] 2 ∧ Pu w w' := by
  have C := fun W => superRight ⟨1, 0, a, b, c⟩ W
  rw [hs] at C
  unfold Sup.v at C
  dsimp only at C
  have C := Lib.hid C
  clear hs
  go_enter Tryz.func8, Tryz.ntmps8
  go_wp2_with fail
  refine (C.out _).mono ?_
  rintro en w1 ⟨rfl, hp1⟩
  go_wp2_with fail
  rw [archTs]
  refine (faultWrap archT 0 2 _ (by decide)).mono ?_
  rintro en w2 ⟨v, rfl, he, hp⟩
  go_wp2
  go_ret
  exact ⟨v, rfl, he, (((Fr.refl _ _).alloc _).pu hp1).pu hp⟩
set_option maxRecDepth 100000 in
set_option maxHeartbeats 2000000 in
theorem archFormatShort (gd : Nat) (img : Bytes) (calls : Int) (a b c : Int) (m : Nat) (w : World) (hd : DiskNil w gd img calls) (hl : img.length ≤ 17592186044416) (hs : (Sup.mk 1 0 a b c).right = true) (hm : (Sup.mk 1 0 a b c).sectors = m) (hmm : m ≤ 1000000) (ht : img.length / 128 < m) :
    Calls Tryz.prog 8 #[.pointer (some ⟨gd, 0, none⟩), .int .i64 a, .int .i64 b, .int .i64 c] w fun en w' => ∃ v, en = .returned v ∧ ErrIs w' v [(archT, 0)] 20 ∧ Pu w w' := by
  have C1 := fun W => superRight ⟨1, 0, a, b, c⟩ W
  rw [hs] at C1
  have C2 := fun W => superSectors ⟨1, 0, a, b, c⟩ W hs
  rw [hm] at C2
  unfold Sup.v at C1 C2
  dsimp only at C1 C2
  have C1 := Lib.hid C1
  have C2 := Lib.hid C2
  have Hd := Lib.hid hd
  have Ht := Lib.hid ht
  clear hs hm hd ht
  go_enter Tryz.func8, Tryz.ntmps8
  go_wp2_with fail
  have hp0 : Pu w (w.alloc (.cells #[.int .i64 1, .int .i64 0, .int .i64 a, .int .i64 b, .int .i64 c] 82)) := (Fr.refl _ _).alloc _
  have hb0 := heap_alloc_new w (.cells #[.int .i64 1, .int .i64 0, .int .i64 a, .int .i64 b, .int .i64 c] 82)
  generalize w.alloc (.cells #[.int .i64 1, .int .i64 0, .int .i64 a, .int .i64 b, .int .i64 c] 82) = w0 at *
  refine (C1.out _).mono ?_
  rintro en w1 ⟨rfl, hp1⟩
  have Hb1 := Lib.hid ((hp1.block _ (blk_lt hb0) (fun h => h)).trans hb0)
  have Hp1 := Lib.hid (hp0.pu hp1)
  clear hp0 hb0 hp1
  obtain ⟨t0, t1, t2, t3, t4, tf⟩ := sup_block Hb1.out
  go_wp2_with fail
  refine (C2.out _).mono ?_
  rintro en w2 ⟨rfl, hp2⟩
  obtain ⟨w3, hrun, ho3, hp3⟩ := run_zeros w2 (m * 128) (by omega)
  rw [show ((m * 128 : Nat) : Int) = (m : Int) * 128 by omega] at hrun
  have hmul : IntKind.i64.wrap ((m : Int) * 128) = ((m * 128 : Nat) : Int) := by rw [IntWalk.i64_in _ (by omega)]; omega
  have Hp3 := Lib.hid ((Hp1.out.pu hp2).pu hp3)
  have Ho3 := Lib.hid ho3
  clear hp2 hp3 ho3 t0 t1 t2 t3 t4 tf
  go_wp2_with fail
  refine (diskWriteNo gd img [] calls 0 _ (zeros (m * 128)) m (fun k => w2.heap.size ≤ k) w3 (Hd.out.pu Hp3.out).at_ (Bs.own Ho3.out) hl (by omega) (by rw [zeros_length]) (by
    cases hq : thereB (img.length / 128) 0 m
    · rfl
    · have := (thereB_iff _ _ _).1 hq; have := Ht.out; omega)).mono ?_
  rintro en w4 ⟨rfl, rfl⟩
  go_wp2_with fail
  rw [archTs]
  refine (faultWrap archT 0 20 _ (by decide)).mono ?_
  rintro en w5 ⟨v, rfl, he, hp⟩
  go_wp2
  go_ret
  exact ⟨v, rfl, he, Hp3.out.pu hp⟩
set_option maxRecDepth 100000 in
set_option maxHeartbeats 2000000 in
theorem archFormat (gd : Nat) (img : Bytes) (calls : Int) (a b c : Int) (m : Nat) (w : World) (hd : DiskNil w gd img calls) (hc : calls < 0) (hl : img.length ≤ 17592186044416) (hs : (Sup.mk 1 0 a b c).right = true) (hm : (Sup.mk 1 0 a b c).sectors = m) (hmm : 2 ≤ m ∧ m ≤ 1000000) (ht : m ≤ img.length / 128) :
    Calls Tryz.prog 8 #[.pointer (some ⟨gd, 0, none⟩), .int .i64 a, .int .i64 b, .int .i64 c] w fun en w' => en = .returned .nilIface ∧ DiskNil w' gd (patch (patch img 0 (zeros (m * 128))) 128 (Sup.mk 1 0 a b c).bytes) calls ∧ Fr (At gd) w w' := by
  have hgdl : gd < w.heap.size := hd.at_.lt
  have hplen : (patch img 0 (zeros (m * 128))).length = img.length := patch_length _ _ _ (by rw [zeros_length]; omega)
  have C3 := fun (W : World) (h : DiskNil W gd (patch img 0 (zeros (m * 128))) calls) => superStore gd _ calls ⟨1, 0, a, b, c⟩ W h (by rw [hplen]; exact hl) hc (by rw [hplen]; omega) hs
  unfold Sup.v at C3
  dsimp only at C3
  rw [show ((1 : Int) % 2).toNat * 128 = 128 from rfl] at C3
  have C3 := Lib.hid C3
  have hlay : lay img (partsOf ((0 : Nat) : Int) (zeros (m * 128)) m) = patch img 0 (zeros (m * 128)) := by rw [lay_parts img _ 0 m (by rw [zeros_length]) (by omega), Nat.zero_mul]
  have hqok : QOk img.length (partsOf ((0 : Nat) : Int) (zeros (m * 128)) m) := partsOf_ok 0 _ m img.length (by rw [zeros_length]) (by omega) m (Nat.le_refl _)
  have Hlay := Lib.hid hlay
  have Hqok := Lib.hid hqok
  generalize (Sup.mk 1 0 a b c).bytes = sb at *
  generalize hI : patch img 0 (zeros (m * 128)) = img1 at *
  clear hplen hI hlay hqok
  have C1 := fun W => superRight ⟨1, 0, a, b, c⟩ W
  rw [hs] at C1
  have C2 := fun W => superSectors ⟨1, 0, a, b, c⟩ W hs
  rw [hm] at C2
  unfold Sup.v at C1 C2
  dsimp only at C1 C2
  have C1 := Lib.hid C1
  have C2 := Lib.hid C2
  have Hd := Lib.hid hd
  have Ht := Lib.hid ht
  clear hs hm hd ht
  go_enter Tryz.func8, Tryz.ntmps8
  go_wp2_with fail
  have hp0 : Pu w (w.alloc (.cells #[.int .i64 1, .int .i64 0, .int .i64 a, .int .i64 b, .int .i64 c] 82)) := (Fr.refl _ _).alloc _
  have hb0 := heap_alloc_new w (.cells #[.int .i64 1, .int .i64 0, .int .i64 a, .int .i64 b, .int .i64 c] 82)
  generalize w.alloc (.cells #[.int .i64 1, .int .i64 0, .int .i64 a, .int .i64 b, .int .i64 c] 82) = w0 at *
  refine (C1.out _).mono ?_
  rintro en w1 ⟨rfl, hp1⟩
  have Hb1 := Lib.hid ((hp1.block _ (blk_lt hb0) (fun h => h)).trans hb0)
  have Hp1 := Lib.hid (hp0.pu hp1)
  clear hp0 hb0 hp1
  obtain ⟨t0, t1, t2, t3, t4, tf⟩ := sup_block Hb1.out
  go_wp2_with fail
  refine (C2.out _).mono ?_
  rintro en w2 ⟨rfl, hp2⟩
  obtain ⟨w3, hrun, ho3, hp3⟩ := run_zeros w2 (m * 128) (by omega)
  rw [show ((m * 128 : Nat) : Int) = (m : Int) * 128 by omega] at hrun
  have hmul : IntKind.i64.wrap ((m : Int) * 128) = ((m * 128 : Nat) : Int) := by rw [IntWalk.i64_in _ (by omega)]; omega
  have Hb3 := Lib.hid (((hp2.pu hp3).block w.heap.size (by have h9 := blk_lt Hb1.out; exact h9) (fun h => h)).trans Hb1.out)
  have Hp3 := Lib.hid ((Hp1.out.pu hp2).pu hp3)
  have Ho3 := Lib.hid ho3
  clear hp2 hp3 ho3 t0 t1 t2 t3 t4 tf
  go_wp2_with fail
  refine (diskWrite gd img calls 0 m _ (zeros (m * 128)) (fun k => w2.heap.size ≤ k) w3 (Hd.out.pu Hp3.out) (Bs.own Ho3.out) hl (by rw [zeros_length]) hc ((thereB_iff _ _ _).2 (by have := Ht.out; omega))).mono ?_
  rintro en w4 ⟨rfl, hd4, hf4⟩
  have hb4 := (hf4.block w.heap.size (by have h9 := blk_lt Hb3.out; exact h9) (fun e => by have e : w.heap.size = gd := e; omega)).trans Hb3.out
  have Hd4 := Lib.hid hd4
  have Hb4 := Lib.hid hb4
  have Hf4 := Lib.hid (Hp3.out.any.trans hf4 (fun _ _ h => h))
  clear hd4 hb4 hf4 hrun Ho3 Hb3
  go_wp2_with fail
  refine (diskFlush gd img _ calls w4 Hd4.out Hqok.out hl hc).mono ?_
  rintro en w5 ⟨rfl, hd5, hf5⟩
  rw [Hlay.out] at hd5
  have hb5 := (hf5.block w.heap.size (by have h9 := blk_lt Hb4.out; exact h9) (fun e => by have e : w.heap.size = gd := e; omega)).trans Hb4.out
  have Hd5 := Lib.hid hd5
  have Hf5 := Lib.hid (Hf4.out.trans hf5 (fun _ _ h => h))
  clear hd5 hf5 Hd4 Hf4 Hb4
  obtain ⟨t0, t1, t2, t3, t4, tf⟩ := sup_block hb5
  go_wp2_with fail
  refine (C3.out w5 Hd5.out).mono ?_
  rintro en w6 ⟨rfl, hd6, hf6⟩
  go_wp2_with fail
  rw [archTs]
  refine (faultAgainNo archT 0 _).mono ?_
  rintro en w7 ⟨rfl, rfl⟩
  go_wp2
  go_ret
  exact ⟨rfl, hd6, Hf5.out.trans hf6 (fun _ _ h => h)⟩
end Go.Proofs.YtaendhbiehknlaaGreatDoor
