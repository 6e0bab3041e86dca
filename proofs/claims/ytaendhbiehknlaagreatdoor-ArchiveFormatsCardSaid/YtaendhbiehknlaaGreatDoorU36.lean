/- What is proved here, of the given program: The archive: booted. The archive: load. -/
import Derived.Test.YtaendhbiehknlaaGreatDoorU31
set_option linter.unusedVariables false
set_option linter.unusedSimpArgs false
set_option linter.constructorNameAsVariable false
namespace Go.Proofs.YtaendhbiehknlaaGreatDoor
open Go.RowKit Go.Shelf Go.Proofs

set_option maxRecDepth 100000 in
set_option maxHeartbeats 1000000 in
theorem archBootedNo (gd : Nat) (e : Int) (l : List (Bytes × Int)) (w : World)
    (C : ∀ W, Pu w W → Calls Tryz.prog 133 #[.pointer (some ⟨gd, 0, none⟩)] W fun en w' => ∃ v, en = .returned (.tuple #[Sup0, v]) ∧ ErrIs w' v l e ∧ Pu W w') :
    Calls Tryz.prog 80 #[.pointer (some ⟨gd, 0, none⟩)] w fun en w' => ∃ v, en = .returned (.tuple #[Sup0, v]) ∧ ErrIs w' v l e ∧ Pu w w' := by
  unfold Sup0 at C ⊢
  have C1 := Lib.hid C
  clear C
  go_enter Tryz.func80, Tryz.ntmps80
  go_wp2_with fail
  have hp0 : Pu w (w.alloc (.cells #[.int .i64 0, .int .i64 0, .int .i64 0, .int .i64 0, .int .i64 0] 82)) := (Fr.refl _ _).alloc _
  have hb0 := heap_alloc_new w (.cells #[.int .i64 0, .int .i64 0, .int .i64 0, .int .i64 0, .int .i64 0] 82)
  generalize w.alloc (.cells #[.int .i64 0, .int .i64 0, .int .i64 0, .int .i64 0, .int .i64 0] 82) = w0 at *
  refine (C1.out w0 hp0).mono ?_
  rintro en w1 ⟨v1, rfl, he1, hp1⟩
  obtain ⟨tx, ux, rfl⟩ := he1.iface
  have Hb1 := Lib.hid ((hp1.block _ (blk_lt hb0) (fun h => h)).trans hb0)
  have Hp1 := Lib.hid (hp0.pu hp1)
  have He1 := Lib.hid he1
  clear hp0 hb0 hp1 C1 he1
  have hA1 := blk_lt Hb1.out
  obtain ⟨y0, y1, y2, y3, y4, yf⟩ := sup_block Hb1.out
  go_wp2_with fail
  obtain ⟨wy, hwy⟩ : ∃ wy, wy = ((((w1.setCell ⟨w.heap.size, 0, none⟩ (.int .i64 0)).setCell ⟨w.heap.size, 1, none⟩ (.int .i64 0)).setCell ⟨w.heap.size, 2, none⟩ (.int .i64 0)).setCell ⟨w.heap.size, 3, none⟩ (.int .i64 0)).setCell ⟨w.heap.size, 4, none⟩ (.int .i64 0) := ⟨_, rfl⟩
  rw [← hwy]
  obtain ⟨u0, u1, u2, u3, u4, hfy⟩ := set5 Hb1.out hwy
  obtain ⟨wz, hwz⟩ : ∃ wz, wz = wy.alloc (.cells #[.int .i64 0, .int .i64 0, .int .i64 0, .int .i64 0, .int .i64 0] 82) := ⟨_, rfl⟩
  rw [← hwz]
  have hpy : Pu wy wz := by rw [hwz]; exact (Fr.refl _ _).alloc _
  have hly : w.heap.size < wy.heap.size := Nat.lt_of_lt_of_le hA1 hfy.size
  have x0 := (hpy.pcell _ 0 hly).trans u0
  have x1 := (hpy.pcell _ 1 hly).trans u1
  have x2 := (hpy.pcell _ 2 hly).trans u2
  have x3 := (hpy.pcell _ 3 hly).trans u3
  have x4 := (hpy.pcell _ 4 hly).trans u4
  have hfw : Fr (At w.heap.size) w1 wz := hfy.pu' hpy
  have hpz : Pu w wz := Fr.new Hp1.out hfw (Nat.le_refl _)
  have hez : ErrIs wz (.iface tx ux) l e := He1.out.move (fun k cs hk => (hfw.block k (blk_lt hk) (fun e => by
    have e : k = w.heap.size := e
    rw [e, Hb1.out] at hk
    injection hk with hk
    injection hk with _ hk
    cases hk)).trans hk)
  clear hwz hwy y0 y1 y2 y3 y4 yf u0 u1 u2 u3 u4
  exact bodyPost_ret (v := .tuple #[.agg #[.int .i64 0, .int .i64 0, .int .i64 0, .int .i64 0, .int .i64 0], .iface tx ux]) (by simp [results, Tryz.results80, go_sem, x0, x1, x2, x3, x4]) rfl ⟨_, rfl, hez, hpz⟩
theorem DiskNil.away {w w' : World} {g k : Nat} {img : Bytes} {calls : Int} {cs : Array Value} {t : TypeId} {fr : Nat × Nat} (h : DiskNil w g img calls) (hk : w.heap[k]? = some (.cells cs t fr)) (hn : ∀ (i : Nat) (x : UInt8), cs[i]? ≠ some (u8v x)) (hgk : g ≠ k) (hf : Fr (At k) w w') : DiskNil w' g img calls := by
  have hgl := h.at_.lt
  obtain ⟨⟨vs, vq, hb, hi, hq⟩, hnil⟩ := h
  have hcell : w'.cell? ⟨g, 1, none⟩ = w.cell? ⟨g, 1, none⟩ := World.cell?_of_block (a := ⟨g, 1, none⟩) (hf.block g hgl hgk)
  refine ⟨⟨vs, vq, (hf.block g hgl hgk).trans hb, ?_, ?_⟩, hcell.trans hnil⟩
  · have hi2 : Bs (fun m => m ≠ g ∧ m ≠ k) w vs img := by
      obtain ⟨A, c, e, h1, h2, h3⟩ := hi
      refine ⟨A, c, e, h1, h2, fun hne => ?_⟩
      obtain ⟨b, o, e2, hS, hlt, hc⟩ := h3 hne
      refine ⟨b, o, e2, ⟨hS, fun e3 => ?_⟩, hlt, hc⟩
      subst e3
      obtain ⟨x, l, rfl⟩ := List.exists_cons_of_ne_nil hne
      obtain ⟨cs', hK, hcs⟩ := hc 0 x rfl
      have hK : cs' = [u8v x] := hK
      subst hK
      have h4 := hcs 0 _ rfl
      rw [cell_of_row _ _ _ _ _ _ hk] at h4
      exact hn _ _ h4
    exact (hi2.move (fun m hm hlt => hf.block m hlt hm.2)).mono (fun m _ hm => hm.1)
  · obtain ⟨A, c, e, h1, h2, _⟩ := hq
    exact ⟨A, c, e, h1, h2, fun h => absurd rfl h⟩
abbrev B5 (b : Nat) (x y z : Int) (w' : World) : Prop := w'.cell? ⟨b, 0, none⟩ = some (.int .i64 2) ∧ w'.cell? ⟨b, 1, none⟩ = some (.int .i64 1) ∧ w'.cell? ⟨b, 2, none⟩ = some (.int .i64 x) ∧ w'.cell? ⟨b, 3, none⟩ = some (.int .i64 y) ∧ w'.cell? ⟨b, 4, none⟩ = some (.int .i64 z)
theorem B5.fr {S : Nat → Prop} {b : Nat} {x y z : Int} {w w' : World} (hf : Fr S w w') (hb : ¬ S b) (h : B5 b x y z w) : B5 b x y z w' := by
  obtain ⟨h0, h1, h2, h3, h4⟩ := h
  have hl : b < w.heap.size := World.block_lt_of_cell? w _ h0
  have k : ∀ o, w'.cell? ⟨b, o, none⟩ = w.cell? ⟨b, o, none⟩ := fun o => World.cell?_of_block (a := ⟨b, o, none⟩) (hf.block b hl hb)
  exact ⟨(k _).trans h0, (k _).trans h1, (k _).trans h2, (k _).trans h3, (k _).trans h4⟩
theorem B5.drew {b : Nat} {x y z : Int} {w : World} (h : B5 b x y z w) : B5 b x y z w.drew := B5.fr ((Fr.refl No w).drew) (fun h => h) h
theorem B5.set {b : Nat} {x y z : Int} {w : World} (k i : Nat) (v : Value) (hk : b ≠ k) (h : B5 b x y z w) : B5 b x y z (w.setCell ⟨k, i, none⟩ v) := B5.fr (S := At k) ((Fr.refl _ w).set _ _ (fun _ => rfl)) hk h
set_option maxRecDepth 100000 in
set_option maxHeartbeats 1000000 in
theorem archBooted (gd : Nat) (img : Bytes) (calls : Int) (slots segs size : Int) (w : World) (hd : DiskNil w gd img calls) (hl : img.length ≤ 17592186044416) (hc : calls < 0) (ht : 2 ≤ img.length / 128) (hs : (Sup.mk 2 1 slots segs size).right = true) (hn : newestSup (img.take 256) = some ⟨1, 0, slots, segs, size⟩) :
    Calls Tryz.prog 80 #[.pointer (some ⟨gd, 0, none⟩)] w fun en w' => en = .returned (.tuple #[(Sup.mk 2 1 slots segs size).v, .nilIface]) ∧ DiskNil w' gd (patch img 0 (Sup.mk 2 1 slots segs size).bytes) calls ∧ Fr (At gd) w w' := by
  have hgl : gd < w.heap.size := hd.at_.lt
  have Hd := Lib.hid hd
  have C1 := Lib.hid (fun (W : World) (hp : Pu w W) => superFindYes gd img calls ⟨1, 0, slots, segs, size⟩ W (hd.pu hp).at_ hl hc ht hn)
  have C2 := Lib.hid (fun (W : World) (hp : Pu w W) => superStore gd img calls ⟨2, 1, slots, segs, size⟩ W (hd.pu hp) hl hc ht hs)
  obtain ⟨img2, hi2⟩ : ∃ x, x = patch img 0 (Sup.mk 2 1 slots segs size).bytes := ⟨_, rfl⟩
  rw [← hi2]
  rw [show patch img (((Sup.mk 2 1 slots segs size).gen % 2).toNat * 128) (Sup.mk 2 1 slots segs size).bytes = img2 from hi2.symm] at C2
  clear hd ht hs hn hi2
  unfold Sup.v at C1 C2 ⊢
  dsimp only at C1 C2 ⊢
  go_enter Tryz.func80, Tryz.ntmps80
  go_wp2_with fail
  have hp0 : Pu w (w.alloc (.cells #[.int .i64 0, .int .i64 0, .int .i64 0, .int .i64 0, .int .i64 0] 82)) := (Fr.refl _ _).alloc _
  have hb0 := heap_alloc_new w (.cells #[.int .i64 0, .int .i64 0, .int .i64 0, .int .i64 0, .int .i64 0] 82)
  generalize w.alloc (.cells #[.int .i64 0, .int .i64 0, .int .i64 0, .int .i64 0, .int .i64 0] 82) = w0 at *
  refine (C1.out w0 hp0).mono ?_
  rintro e w1 ⟨rfl, hp1⟩
  have Hb1 := Lib.hid ((hp1.block _ (blk_lt hb0) (fun h => h)).trans hb0)
  have Hp1 := Lib.hid (hp0.pu hp1)
  clear hp0 hb0 hp1 C1
  go_wp2_with fail
  have hp2 : Pu w1 (w1.alloc (.cells #[.int .i64 2, .int .i64 1, .int .i64 slots, .int .i64 segs, .int .i64 size] 82)) := (Fr.refl _ _).alloc _
  have hb2 := heap_alloc_new w1 (.cells #[.int .i64 2, .int .i64 1, .int .i64 slots, .int .i64 segs, .int .i64 size] 82)
  have hne : w1.heap.size ≠ w.heap.size := by have := blk_lt Hb1.out; omega
  have hge : w.heap.size ≤ w1.heap.size := Hp1.out.size
  generalize w1.alloc (.cells #[.int .i64 2, .int .i64 1, .int .i64 slots, .int .i64 segs, .int .i64 size] 82) = w2 at *
  generalize w1.heap.size = b at *
  have Hb2 := Lib.hid hb2
  have Hz2 := Lib.hid ((hp2.block _ (blk_lt Hb1.out) (fun h => h)).trans Hb1.out)
  have Hp2 := Lib.hid (Hp1.out.pu hp2)
  obtain ⟨u0, u1, u2, u3, u4, uf⟩ := sup_block hb2
  clear hp2 hb2
  have hL : B5 b slots segs size w2 := ⟨u0, u1, u2, u3, u4⟩
  have hbg : ¬ At gd b := fun e => by have e : b = gd := e; omega
  go_region_held3 (fun w' => w'.cell? ⟨b, 0, none⟩ = some (.int .i64 2) ∧ w'.cell? ⟨b, 1, none⟩ = some (.int .i64 1) ∧ w'.cell? ⟨b, 2, none⟩ = some (.int .i64 slots) ∧ w'.cell? ⟨b, 3, none⟩ = some (.int .i64 segs) ∧ w'.cell? ⟨b, 4, none⟩ = some (.int .i64 size))
    (first | with_reducible exact hL | with_reducible exact hk | with_reducible exact B5.drew hL | with_reducible exact B5.set _ _ _ hne (B5.set _ _ _ hne (B5.set _ _ _ hne (B5.set _ _ _ hne (B5.set _ _ _ hne (by assumption))))))
    (first
      | (go_at_call 28; refine (C2.out _ (Hp2.out.pu ((Fr.refl _ _).drew))).mono ?_; rintro e w3 ⟨rfl, hd3, hf3⟩; have hk : B5 b slots segs size w3 := B5.fr hf3 hbg (by assumption); have hz3 := (hf3.block w.heap.size (by have := blk_lt Hz2.out; exact this) (fun e => by have e : w.heap.size = gd := e; omega)).trans Hz2.out; obtain ⟨z0, z1, z2, z3, z4, zf⟩ := sup_block hz3; have Hd3 := Lib.hid hd3; have Hf3 := Lib.hid hf3; have Hz3 := Lib.hid hz3; clear hd3 hf3 hz3))
  all_goals
    go_wp2
    obtain ⟨wz, hwz⟩ : ∃ wz, wz = ((((w3.setCell ⟨w.heap.size, 0, none⟩ (.int .i64 2)).setCell ⟨w.heap.size, 1, none⟩ (.int .i64 1)).setCell ⟨w.heap.size, 2, none⟩ (.int .i64 slots)).setCell ⟨w.heap.size, 3, none⟩ (.int .i64 segs)).setCell ⟨w.heap.size, 4, none⟩ (.int .i64 size) := ⟨_, rfl⟩
    rw [← hwz]
    obtain ⟨x0, x1, x2, x3, x4, hfz⟩ := set5 Hz3.out hwz
    have hdz := DiskNil.away Hd3.out Hz3.out (fun i x h => by match i, h with | 0, h => cases h | 1, h => cases h | 2, h => cases h | 3, h => cases h | 4, h => cases h | (n + 5), h => simp at h) (by omega) hfz
    clear hwz z0 z1 z2 z3 z4 zf hk hL
    exact bodyPost_ret (v := .tuple #[.agg #[.int .i64 2, .int .i64 1, .int .i64 slots, .int .i64 segs, .int .i64 size], .nilIface]) (by simp [results, Tryz.results80, go_sem, x0, x1, x2, x3, x4]) rfl ⟨rfl, hdz, (Hp2.out.any.trans ((Fr.refl _ _).drew.trans Hf3.out (fun _ _ h => h)) (fun _ _ h => h)).trans hfz (fun m hm e => by have e : m = w.heap.size := e; omega)⟩
end Go.Proofs.YtaendhbiehknlaaGreatDoor

namespace Go.Proofs.YtaendhbiehknlaaGreatDoor
open Go.RowKit Go.Shelf Go.Proofs

theorem TabZero.fr {w w1 : World} {S : Nat → Prop} {t n : Nat} (h : TabZero w t n) (hf : Fr S w w1) (hS : ∀ k, S k → k ≠ t ∧ ∀ cs e fr, w.heap[k]? = some (.cells cs e fr) → e ≠ 184) : TabZero w1 t n := by
  obtain ⟨d, f, A, c, xs, h1, h2, h3⟩ := h
  refine ⟨d, f, A, c, xs, (hf.block t (blk_lt h1) (fun e => (hS t e).1 rfl)).trans h1, own_move h2 (fun k hk => hf.block k (own_lt h2 k hk).2 (fun e => ?_)), h3⟩
  rcases h2.2 with ⟨h4, _⟩ | ⟨g', cap', cur, h4, _, hh, _⟩
  · rw [h4] at hk; cases hk
  · rw [h4] at hk
    injection hk with hk
    subst hk
    exact (hS _ e).2 _ _ _ hh rfl
theorem TabZero.lt {w : World} {t n : Nat} (h : TabZero w t n) : t < w.heap.size := by
  obtain ⟨d, f, A, c, xs, h1, h2, h3⟩ := h
  exact blk_lt h1
theorem DiskNil.blk {w : World} {g : Nat} {img : Bytes} {calls : Int} (h : DiskNil w g img calls) : ∃ cs, w.heap[g]? = some (.cells cs 73 (0, 0)) := by
  obtain ⟨⟨vs, vq, hb, hi, hq⟩, hnil⟩ := h
  exact ⟨_, hb⟩
theorem TabZero.frAt {w w1 : World} {k t n : Nat} {cs : Array Value} {e : TypeId} {fr : Nat × Nat} (h : TabZero w t n) (hf : Fr (At k) w w1) (hk : w.heap[k]? = some (.cells cs e fr)) (he : e ≠ 184) (hne : k ≠ t) : TabZero w1 t n :=
  h.fr hf (fun m em => by
    have em : m = k := em
    subst em
    exact ⟨hne, fun cs' e' fr' hm => by rw [hk] at hm; injection hm with hm; injection hm with _ hm; rw [← hm]; exact he⟩)
theorem LogNil.fr {w w1 : World} {S : Nat → Prop} {g : Nat} (h : LogNil w g) (hf : Fr S w w1) (hg : ¬ S g) : LogNil w1 g := (hf.cell g _ h.lt hg).trans h
theorem LedNil.fr {w w1 : World} {S : Nat → Prop} {g : Nat} (h : LedNil w g) (hf : Fr S w w1) (hg : ¬ S g) : LedNil w1 g := (hf.cell g _ h.lt hg).trans h
set_option maxRecDepth 100000 in
set_option maxHeartbeats 1000000 in
theorem archLoadNo (g gd : Nat) (e : Int) (l : List (Bytes × Int)) (w : World)
    (C : ∀ W, Pu w W → Calls Tryz.prog 133 #[.pointer (some ⟨gd, 0, none⟩)] W fun en w' => ∃ v, en = .returned (.tuple #[Sup0, v]) ∧ ErrIs w' v l e ∧ Pu W w') :
    Calls Tryz.prog 37 #[.pointer (some ⟨g, 0, none⟩), .pointer (some ⟨gd, 0, none⟩)] w fun en w' => ∃ v, en = .returned v ∧ ErrIs w' v l e ∧ Pu w w' := by
  have C1 := archBootedNo gd e l w C
  unfold Sup0 at C1
  have C1 := Lib.hid C1
  clear C
  go_enter Tryz.func37, Tryz.ntmps37
  go_wp2_with fail
  refine C1.out.mono ?_
  rintro en w1 ⟨v1, rfl, he1, hp1⟩
  obtain ⟨tx, ux, rfl⟩ := he1.iface
  have Hp1 := Lib.hid hp1
  have He1 := Lib.hid he1
  clear hp1 C1 he1
  go_wp2_with fail
  go_ret
  exact ⟨_, rfl, He1.out.pu ((Fr.refl _ _).alloc _), Hp1.out.alloc _⟩
set_option maxRecDepth 100000 in
set_option maxHeartbeats 2000000 in
theorem archLoad (g gd : Nat) (per keep : Int) (A : Option Addr) (n c : Nat) (mp : Option Nat) (dr dq : Option Addr) (img : Bytes) (calls : Int) (slots segs size : Nat) (w : World) (h : ArchAt w g per keep A n c none none none mp dr dq) (hd : DiskNil w gd img calls) (hgd : gd ≠ g) (hl : img.length ≤ 17592186044416) (hc : calls < 0) (ht : 2 + 2 * slots + segs * size ≤ img.length / 128) (hs : (Sup.mk 2 1 slots segs size).right = true) (hn : newestSup (img.take 256) = some ⟨1, 0, slots, segs, size⟩)
    (hz1 : ((patch img 0 (Sup.mk 2 1 slots segs size).bytes).drop (2 * 128)).take (2 * slots * 128) = zeros (2 * slots * 128))
    (hz2 : ((patch img 0 (Sup.mk 2 1 slots segs size).bytes).drop ((2 + 2 * slots) * 128)).take (segs * size * 128) = zeros (segs * size * 128)) :
    Calls Tryz.prog 37 #[.pointer (some ⟨g, 0, none⟩), .pointer (some ⟨gd, 0, none⟩)] w fun en w' => ∃ lg kt ld, en = .returned .nilIface ∧ ArchAt w' g per keep A n c (some ⟨lg, 0, none⟩) (some ⟨kt, 0, none⟩) (some ⟨ld, 0, none⟩) mp dr dq ∧ LogNil w' lg ∧ TabZero w' kt slots ∧ LedNil w' ld ∧ DiskNil w' gd (patch img 0 (Sup.mk 2 1 slots segs size).bytes) calls ∧ Fr (fun k => k = g ∨ k = gd) w w' ∧ w.heap.size ≤ lg ∧ w.heap.size ≤ ld := by
  obtain ⟨_, _, b1, b2, b3⟩ := (Sup.right_iff _).1 hs
  dsimp only at b1 b2 b3
  have hgl : g < w.heap.size := blk_lt h
  have hgdl : gd < w.heap.size := hd.at_.lt
  have C1 := Lib.hid (archBooted gd img calls slots segs size w hd hl hc (by omega) hs hn)
  obtain ⟨img2, hi2⟩ : ∃ x, x = patch img 0 (Sup.mk 2 1 slots segs size).bytes := ⟨_, rfl⟩
  have hlen : img2.length = img.length := by rw [hi2]; exact patch_length _ _ _ (by rw [Sup.bytes_length]; omega)
  rw [← hi2] at hz1 hz2 C1 ⊢
  unfold Sup.v at C1
  dsimp only at C1
  have Hz1 := Lib.hid hz1
  have Hz2 := Lib.hid hz2
  have Ht := Lib.hid ht
  have Hlen := Lib.hid hlen
  have Ha := Lib.hid h
  clear hz1 hz2 ht hs hn hlen hi2 hd h
  go_enter Tryz.func37, Tryz.ntmps37
  go_wp2_with fail
  refine C1.out.mono ?_
  rintro en w1 ⟨rfl, hd1, hf1⟩
  have Hd1 := Lib.hid hd1
  have Hf1 := Lib.hid hf1
  clear C1 hd1 hf1
  go_wp2_with fail
  have hp2 : Pu w1 (w1.alloc (.cells #[.int .i64 2, .int .i64 1, .int .i64 slots, .int .i64 segs, .int .i64 size] 82)) := (Fr.refl _ _).alloc _
  have hb2 := heap_alloc_new w1 (.cells #[.int .i64 2, .int .i64 1, .int .i64 slots, .int .i64 segs, .int .i64 size] 82)
  have hge : w.heap.size ≤ w1.heap.size := Hf1.out.size
  generalize w1.alloc (.cells #[.int .i64 2, .int .i64 1, .int .i64 slots, .int .i64 segs, .int .i64 size] 82) = w2 at *
  generalize w1.heap.size = b at *
  have Hb2 := Lib.hid hb2
  have Hd2 := Lib.hid (Hd1.out.pu hp2)
  have Hf2 := Lib.hid (Hf1.out.pu' hp2)
  have Ha2 := Lib.hid (Ha.out.fr Hf2.out (fun e => hgd e.symm))
  clear hb2 hp2 Hd1 Hf1 Ha
  refine (keysOpenZero gd img2 calls 2 slots w2 Hd2.out.at_ (by rw [Hlen.out]; exact hl) hc (by omega) (by omega) (by rw [Hlen.out]; have := Ht.out; omega) Hz1.out).mono ?_
  rintro en w3 ⟨t, rfl, ht3, hst, hp3⟩
  have Hd3 := Lib.hid (Hd2.out.pu hp3)
  have Hf3 := Lib.hid (Hf2.out.pu' hp3)
  have Ha3 := Lib.hid (Ha2.out.fr hp3 (fun h => h))
  have Hb3 := Lib.hid ((hp3.block b (blk_lt Hb2.out) (fun h => h)).trans Hb2.out)
  have Ht3 := Lib.hid ht3
  have hbl : b < w2.heap.size := blk_lt Hb2.out
  clear hp3 ht3 Hd2 Hf2 Ha2 Hb2
  obtain ⟨-, -, -, -, x4, -, -, -, -, xf⟩ := arch_cells Ha3.out
  have hgl3 := blk_lt Ha3.out
  obtain ⟨y0, y1, y2, y3, y4, yf⟩ := sup_block Hb3.out
  have hbg : b ≠ g := by omega
  have hmul : IntKind.i64.wrap (2 * (slots : Int)) = 2 * (slots : Int) := IntWalk.i64_in _ (by omega)
  have hadd : IntKind.i64.wrap (2 + 2 * (slots : Int)) = ((2 + 2 * slots : Nat) : Int) := by rw [IntWalk.i64_in _ (by omega)]; omega
  go_wp2_with fail
  have hfs : Fr (At g) w3 (w3.setCell ⟨g, 4, none⟩ (.pointer (some ⟨t, 0, none⟩))) := (Fr.refl _ _).set _ _ (fun _ => rfl)
  have hat := Ha3.out.set4 (some ⟨t, 0, none⟩)
  generalize w3.setCell ⟨g, 4, none⟩ (.pointer (some ⟨t, 0, none⟩)) = w4 at *
  have Ht4 := Lib.hid (Ht3.out.frAt hfs Ha3.out (by decide) (by omega))
  have Hd4 := Lib.hid (Hd3.out.away Ha3.out Ha3.out.noU8 hgd hfs)
  have Ha4 := Lib.hid hat
  have Hb4 := Lib.hid ((hfs.block b (blk_lt Hb3.out) (fun e => by have e : b = g := e; omega)).trans Hb3.out)
  have Hf4 := Lib.hid ((Hf3.out.mono (fun k _ e => Or.inr e)).trans hfs (fun k _ e => Or.inl e) : Fr (fun k => k = g ∨ k = gd) w w4)
  clear hfs hat Ht3 Hd3 Ha3 Hb3 Hf3 x4 xf y0 y1 y2 y3 y4 yf
  have hL := logOpenZero gd (2 + 2 * slots) segs size img2 calls w4 (by omega) (by omega) (by omega) Hd4.out hc (by rw [Hlen.out]; exact hl) (by rw [Hlen.out]; exact Ht.out) Hz2.out
  rw [show ((2 + 2 * slots : Nat) : Int) = 2 + 2 * (slots : Int) by omega] at hL
  refine hL.mono ?_
  rintro en w5 ⟨lg, rfl, hl5, hs5, hd5, hf5⟩
  obtain ⟨dcs, hdb⟩ := Hd4.out.blk
  have hg4 := blk_lt Ha4.out
  have ht4 := Ht4.out.lt
  have hgt : gd ≠ t := by omega
  have hgt2 : g ≠ t := by omega
  have Ht5 := Lib.hid (Ht4.out.frAt hf5 hdb (by decide) hgt)
  have Ha5 := Lib.hid (Ha4.out.fr hf5 (fun e => hgd e.symm))
  have Hd5 := Lib.hid hd5
  have Hl5 := Lib.hid hl5
  have Hf5 := Lib.hid (Hf4.out.trans hf5 (fun k _ e => Or.inr e) : Fr (fun k => k = g ∨ k = gd) w w5)
  have hlg : lg ≠ g := by omega
  have hwlg : w.heap.size ≤ lg := Nat.le_trans Hf4.out.size hs5
  clear hL hl5 hd5 hf5 hdb Ht4 Ha4 Hd4 Hb4 Hf4 ht4
  obtain ⟨-, -, -, x3, -, -, -, -, -, xf⟩ := arch_cells Ha5.out
  have hgl5 := blk_lt Ha5.out
  go_wp2_with fail
  have hfs : Fr (At g) w5 (w5.setCell ⟨g, 3, none⟩ (.pointer (some ⟨lg, 0, none⟩))) := (Fr.refl _ _).set _ _ (fun _ => rfl)
  have hat := Ha5.out.set3 (some ⟨lg, 0, none⟩)
  generalize w5.setCell ⟨g, 3, none⟩ (.pointer (some ⟨lg, 0, none⟩)) = w6 at *
  have Ht6 := Lib.hid (Ht5.out.frAt hfs Ha5.out (by decide) hgt2)
  have Hd6 := Lib.hid (Hd5.out.away Ha5.out Ha5.out.noU8 hgd hfs)
  have Hl6 := Lib.hid (Hl5.out.fr hfs hlg)
  have Ha6 := Lib.hid hat
  have Hf6 := Lib.hid (Hf5.out.trans hfs (fun k _ e => Or.inl e))
  clear hfs hat Ht5 Hd5 Ha5 Hl5 Hf5 x3 xf hgl5
  refine (logTextsNil lg w6 Hl6.out).mono ?_
  rintro en w' ⟨rfl, rfl⟩
  go_wp2_with fail
  refine (ledgerOfNil w6).mono ?_
  rintro en w7 ⟨ld, rfl, hld, hs7, hp7⟩
  have Ha7 := Lib.hid (Ha6.out.fr hp7 (fun h => h))
  have Hd7 := Lib.hid (Hd6.out.pu hp7)
  have Hl7 := Lib.hid (Hl6.out.pu hp7)
  have Ht7 := Lib.hid (Ht6.out.pu hp7)
  have Hf7 := Lib.hid (Hf6.out.pu hp7)
  have Hld7 := Lib.hid hld
  have hldg : ld ≠ g := by have := blk_lt Ha6.out; omega
  have hwld : w.heap.size ≤ ld := Nat.le_trans Hf6.out.size hs7
  clear hld hp7 Ha6 Hd6 Hl6 Ht6 Hf6
  obtain ⟨-, -, -, -, x4, x5, -, -, -, xf⟩ := arch_cells Ha7.out
  have hgl7 := blk_lt Ha7.out
  go_wp2_with fail
  have hfs : Fr (At g) w7 (w7.setCell ⟨g, 5, none⟩ (.pointer (some ⟨ld, 0, none⟩))) := (Fr.refl _ _).set _ _ (fun _ => rfl)
  have hat := Ha7.out.set5 (some ⟨ld, 0, none⟩)
  generalize w7.setCell ⟨g, 5, none⟩ (.pointer (some ⟨ld, 0, none⟩)) = w8 at *
  have Ht8 := Lib.hid (Ht7.out.frAt hfs Ha7.out (by decide) hgt2)
  have Hd8 := Lib.hid (Hd7.out.away Ha7.out Ha7.out.noU8 hgd hfs)
  have Hl8 := Lib.hid (Hl7.out.fr hfs hlg)
  have Hld8 := Lib.hid (Hld7.out.fr hfs hldg)
  have Ha8 := Lib.hid hat
  have Hf8 := Lib.hid (Hf7.out.trans hfs (fun k _ e => Or.inl e))
  clear hfs hat Ht7 Hd7 Ha7 Hl7 Hf7 Hld7 x4 x5 xf hgl7
  refine (keysBucketsZero t slots w8 Ht8.out (by omega)).mono ?_
  rintro en w9 ⟨rfl, hp9⟩
  have Ha9 := Lib.hid (Ha8.out.fr hp9 (fun h => h))
  have Hd9 := Lib.hid (Hd8.out.pu hp9)
  have Hl9 := Lib.hid (Hl8.out.pu hp9)
  have Ht9 := Lib.hid (Ht8.out.pu hp9)
  have Hld9 := Lib.hid (Hld8.out.pu hp9)
  have Hf9 := Lib.hid (Hf8.out.pu hp9)
  clear hp9 Ha8 Hd8 Hl8 Ht8 Hf8 Hld8
  go_wp2_with fail
  refine wp_loop_rounds 1 ?_
  rw [rounds_succ]
  go_wp2
  go_ret
  exact ⟨lg, t, ld, rfl, Ha9.out, Hl9.out, Ht9.out, Hld9.out, Hd9.out, Hf9.out, hwlg, hwld⟩
end Go.Proofs.YtaendhbiehknlaaGreatDoor
