/- What is proved here, of the given program: The document's archive (ref29): Open. -/
import Derived.Test.YtaendhbiehknlaaGreatDoorU38
import Derived.Test.YtaendhbiehknlaaGreatDoorU42
set_option linter.unusedVariables false
set_option linter.unusedSimpArgs false
set_option linter.constructorNameAsVariable false
namespace Go.Proofs.YtaendhbiehknlaaGreatDoor
open Go.RowKit Go.Shelf Go.Proofs

/-- The document's archive at block g. -/
def ArchR (w : World) (g : Nat) (per keep : Int) (A : Option Addr) (n c : Nat) (lg kt ld : Option Addr) : Prop :=
  w.heap[g]? = some (.cells #[.int .i64 per, .int .i64 keep, .slice A n c, .pointer lg, .pointer kt, .pointer ld, .int .i64 0, .slice none 0 0, .bool false, .int .u64 0, .int .u64 0, .slice none 0 0] 54 (0, 0))
section
variable {w : World} {g : Nat} {per keep : Int} {A : Option Addr} {n c : Nat} {lg kt ld : Option Addr}
theorem ArchR.cells (h : ArchR w g per keep A n c lg kt ld) : w.cell? ⟨g, 3, none⟩ = some (.pointer lg) ∧ w.cell? ⟨g, 4, none⟩ = some (.pointer kt) ∧ w.cell? ⟨g, 5, none⟩ = some (.pointer ld) ∧ w.cell? ⟨g, 6, none⟩ = some (.int .i64 0) ∧ ∀ i, w.frozen? ⟨g, i, none⟩ = false := by
  unfold ArchR at h
  refine ⟨?_, ?_, ?_, ?_, fun i => by simp [World.frozen?, h]⟩ <;> (rw [cell_of_row _ _ _ _ _ _ h]; rfl)
theorem ArchR.fr {w' : World} {S : Nat → Prop} (h : ArchR w g per keep A n c lg kt ld) (hf : Fr S w w') (hg : ¬ S g) : ArchR w' g per keep A n c lg kt ld := (hf.block g (blk_lt h) hg).trans h
theorem ArchR.set3 (p : Option Addr) (h : ArchR w g per keep A n c lg kt ld) : ArchR (w.setCell ⟨g, 3, none⟩ (.pointer p)) g per keep A n c p kt ld := by
  unfold ArchR at h ⊢
  simp only [World.setCell, Array.getElem?_modify, if_pos, h, Option.map_some]
  rfl
theorem ArchR.set4 (p : Option Addr) (h : ArchR w g per keep A n c lg kt ld) : ArchR (w.setCell ⟨g, 4, none⟩ (.pointer p)) g per keep A n c lg p ld := by
  unfold ArchR at h ⊢
  simp only [World.setCell, Array.getElem?_modify, if_pos, h, Option.map_some]
  rfl
theorem ArchR.set5 (p : Option Addr) (h : ArchR w g per keep A n c lg kt ld) : ArchR (w.setCell ⟨g, 5, none⟩ (.pointer p)) g per keep A n c lg kt p := by
  unfold ArchR at h ⊢
  simp only [World.setCell, Array.getElem?_modify, if_pos, h, Option.map_some]
  rfl
theorem ArchR.set6 (h : ArchR w g per keep A n c lg kt ld) : ArchR (w.setCell ⟨g, 6, none⟩ (.int .i64 0)) g per keep A n c lg kt ld := by
  unfold ArchR at h ⊢
  simp only [World.setCell, Array.getElem?_modify, if_pos, h, Option.map_some]
  rfl
end
theorem Sl.sne {α : Type} {enc : α → Value} {h1 : ∀ x, (enc x).oneCell' = true} {S : Nat → Prop} {w : World} {v : Value} {l : List α} {k : Nat} (h : Sl (Kd.scalar enc h1) S w v l) (hg : ∀ (o : Nat) (x : α), w.cell? ⟨k, o, none⟩ ≠ some (enc x)) : Sl (Kd.scalar enc h1) (fun j => S j ∧ j ≠ k) w v l := by
  obtain ⟨A, c, rfl, h2, h3, h4⟩ := id h
  refine ⟨A, c, rfl, h2, h3, fun hx => ?_⟩
  obtain ⟨b, o, rfl, hb, hlt, hc⟩ := h4 hx
  refine ⟨b, o, rfl, ⟨hb, ?_⟩, hlt, hc⟩
  rintro rfl
  rcases l with _ | ⟨x, r⟩
  · exact hx rfl
  · obtain ⟨b', o', e', _, _, hc'⟩ := h.scell (j := 0) (x := x) rfl
    injection e' with e'
    injection e' with e1 e2
    subst e1
    exact hg _ _ hc'
theorem Sl.nil_any {α : Type} {d : Kd α} {S S' : Nat → Prop} {w w' : World} {v : Value} (h : Sl d S w v ([] : List α)) : Sl d S' w' v [] := by
  obtain ⟨A, c, rfl, h2, h3, _⟩ := h
  exact ⟨A, c, rfl, h2, h3, fun h => absurd rfl h⟩
theorem RefAt.away {w w1 : World} {g k : Nat} {img : Bytes} {cs : Array Value} {t : TypeId} (h : RefAt w g img []) (hb : w.heap[k]? = some (.cells cs t (0, 0))) (hk : ∀ (i : Nat) (x : Bytes), cs[i]? ≠ some (tv x)) (hne : g ≠ k) (hf : Fr (At k) w w1) : RefAt w1 g img [] := by
  obtain ⟨vs, va, vw, h1, h2, h3, h4⟩ := h
  have h5 := h2.sne (k := k) (fun o x => by rw [cell_of_row w k o _ _ _ hb]; exact hk o x)
  exact ⟨vs, va, vw, (hf.block g (blk_lt h1) hne).trans h1, (h5.fr hf (fun j _ hj e => hj.2 e)).mono (fun j _ hj => hj.1), h3.nil_any, h4.nil_any⟩
theorem ArchR.noT {w : World} {g : Nat} {per keep : Int} {A : Option Addr} {n c : Nat} {lg kt ld : Option Addr} (_ : ArchR w g per keep A n c lg kt ld) : ∀ (i : Nat) (x : Bytes), (#[.int .i64 per, .int .i64 keep, .slice A n c, .pointer lg, .pointer kt, .pointer ld, .int .i64 0, .slice none 0 0, .bool false, .int .u64 0, .int .u64 0, .slice none 0 0] : Array Value)[i]? ≠ some (tv x) := by
  intro i x
  match i with
  | 0 => simp [tv]
  | 1 => simp [tv]
  | 2 => simp [tv]
  | 3 => simp [tv]
  | 4 => simp [tv]
  | 5 => simp [tv]
  | 6 => simp [tv]
  | 7 => simp [tv]
  | 8 => simp [tv]
  | 9 => simp [tv]
  | 10 => simp [tv]
  | 11 => simp [tv]
  | i + 12 => simp
theorem TabR.away {w w1 : World} {k t n : Nat} {cs : Array Value} {e : TypeId} (h : TabR w t n) (hb : w.heap[k]? = some (.cells cs e (0, 0))) (he : e ≠ 200) (hne : t ≠ k) (hf : Fr (At k) w w1) : TabR w1 t n := by
  obtain ⟨d, f, dd, at', A, c, xs, h1, h2, h3⟩ := h
  exact ⟨d, f, dd, at', A, c, xs, (hf.block t (blk_lt h1) hne).trans h1, own_move h2 (fun j hj => hf.block j (own_lt h2 j hj).2 (fun e' => by have h9 := blk_ne hb h2 he; rw [hj] at h9; exact h9 (by rw [show j = k from e']))), h3⟩
section
variable {w : World} {gd : Nat} {img : Bytes} {per keep : Int} {A : Option Addr} {n c : Nat}
set_option maxRecDepth 100000 in
theorem refOpenPol (v : Value) (hpol : polRight per keep n = false) :
    Calls Tryz.prog 11 #[v, .agg #[.int .i64 per, .int .i64 keep, .slice A n c]] w fun e w' => e = .returned (.tuple #[.pointer none, .int .i64 2]) ∧ Pu w w' := by
  have C := fun W => refPolRight per keep A n c W
  rw [hpol] at C
  have C := Lib.hid C
  clear hpol
  go_enter Tryz.func11, Tryz.ntmps11
  go_wp2_with fail
  refine (C.out _).mono ?_
  rintro e w1 ⟨rfl, hp1⟩
  have Hp1 := Lib.hid (((Fr.refl _ _).alloc _ : Pu w _).pu hp1)
  clear hp1
  go_wp2
  go_ret2
  exact ⟨rfl, Hp1.out⟩
set_option maxRecDepth 100000 in
set_option maxHeartbeats 1000000 in
theorem refOpenFindNo (e : Int) (he : e ≠ 0) (hpol : polRight per keep n = true) (hgl : gd < w.heap.size) (CF : ∀ W, Pu w W → Calls Tryz.prog 44 #[.pointer (some ⟨gd, 0, none⟩)] W fun en w' => en = .returned (.tuple #[Sup0, .int .i64 e]) ∧ Pu W w') :
    Calls Tryz.prog 11 #[.pointer (some ⟨gd, 0, none⟩), .agg #[.int .i64 per, .int .i64 keep, .slice A n c]] w fun en w' => en = .returned (.tuple #[.pointer none, .int .i64 e]) ∧ Pu w w' := by
  have C := fun W => refPolRight per keep A n c W
  rw [hpol] at C
  have C := Lib.hid C
  unfold Sup0 at CF
  have CF := Lib.hid CF
  have heB : (e != 0) = true := by simpa using he
  clear hpol he
  go_enter Tryz.func11, Tryz.ntmps11
  go_wp2_with fail
  have hp0 : Pu w (w.alloc (.cells #[.int .i64 per, .int .i64 keep, .slice A n c] 25)) := (Fr.refl _ _).alloc _
  have hb0 := heap_alloc_new w (.cells #[.int .i64 per, .int .i64 keep, .slice A n c] 25)
  generalize w.alloc (.cells #[.int .i64 per, .int .i64 keep, .slice A n c] 25) = w0 at *
  refine (C.out _).mono ?_
  rintro en w1 ⟨rfl, hp1⟩
  have Hp1 := Lib.hid (hp0.pu hp1)
  have hb1 := (hp1.block _ (blk_lt hb0) (fun h => h)).trans hb0
  obtain ⟨y0, y1, y2, yf⟩ := block3 hb1
  have hyl := blk_lt hb1
  clear hp1 hp0 hb0 hb1
  go_wp2_with fail
  refine (CF.out _ (Hp1.out.alloc _)).mono ?_
  rintro en w2 ⟨rfl, hp2⟩
  have Hp2 := Lib.hid ((Hp1.out.alloc _).pu hp2)
  clear hp2 y0 y1 y2 yf
  go_wp2
  go_ret2
  exact ⟨rfl, Hp2.out.alloc _⟩
set_option maxRecDepth 100000 in
set_option maxHeartbeats 4000000 in
theorem refOpenOk (hpol : polRight per keep n = true) (slots segs size : Nat) (hd : RefAt w gd img []) (hl : img.length ≤ 17592186044416) (ht : 2 + 2 * slots + segs * size ≤ img.length / 128) (hs : (Sup.mk 2 1 slots segs size).right = true) (hnw : newestSup (img.take 256) = some ⟨1, 0, slots, segs, size⟩) (hz1 : ((patch img 0 (Sup.mk 2 1 slots segs size).bytes).drop (2 * 128)).take (2 * slots * 128) = zeros (2 * slots * 128)) (hz2 : ((patch img 0 (Sup.mk 2 1 slots segs size).bytes).drop ((2 + 2 * slots) * 128)).take (segs * size * 128) = zeros (segs * size * 128)) :
    Calls Tryz.prog 11 #[.pointer (some ⟨gd, 0, none⟩), .agg #[.int .i64 per, .int .i64 keep, .slice A n c]] w fun en w' => ∃ g, en = .returned (.tuple #[.pointer (some ⟨g, 0, none⟩), .int .i64 0]) ∧ w'.cell? ⟨g, 6, none⟩ = some (.int .i64 0) ∧ w.heap.size ≤ g ∧ RefAt w' gd (patch img 0 (Sup.mk 2 1 slots segs size).bytes) [] ∧ Fr (At gd) w w' := by
  have C := fun W => refPolRight per keep A n c W
  rw [hpol] at C
  have C := Lib.hid C
  obtain ⟨-, -, ⟨b1, b2⟩, ⟨b3, b4⟩, ⟨b5, b6⟩⟩ := (Sup.right_iff _).1 hs
  dsimp only at b1 b2 b3 b4 b5 b6
  have hgd := hd.lt
  have CF := fun (W : World) (hW : RefAt W gd img []) => refFindYes ⟨1, 0, slots, segs, size⟩ hW hl (by omega) hnw
  have CS := fun (W : World) (hW : RefAt W gd img []) => refStore ⟨2, 1, slots, segs, size⟩ hW hl (by omega) hs
  have hbl := (Sup.mk 2 1 slots segs size).bytes_length
  unfold Sup.v at CF CS
  dsimp only at CF CS
  rw [show ((2 : Int) % 2).toNat * 128 = 0 from rfl] at CS
  have hpl : (patch img 0 (Sup.mk 2 1 slots segs size).bytes).length = img.length := patch_length _ _ _ (by omega)
  generalize (Sup.mk 2 1 slots segs size).bytes = sb at *
  generalize patch img 0 sb = img2 at *
  have CK := fun (W : World) (hW : RefAt W gd img2 []) => refKeysOpen hW (by omega) 2 slots (by omega) (by omega) (by rw [hpl]; omega) hz1
  have CL := fun (W : World) (hW : RefAt W gd img2 []) => refLogOpen hW (by omega) (2 + 2 * slots) segs size (by omega) (by omega) (by omega) (by rw [hpl]; exact ht) hz2
  rw [show ((2 + 2 * slots : Nat) : Int) = 2 + 2 * (slots : Int) by omega] at CL
  have CF := Lib.hid CF
  have CS := Lib.hid CS
  have CK := Lib.hid CK
  have CL := Lib.hid CL
  have q1 : IntKind.i64.wrap (2 * (slots : Int)) = 2 * (slots : Int) := IntWalk.i64_in _ (by omega)
  have q2 : IntKind.i64.wrap (2 + 2 * (slots : Int)) = 2 + 2 * (slots : Int) := IntWalk.i64_in _ (by omega)
  have hsl : slots ≤ 1000 := by omega
  have Hd := Lib.hid hd
  clear hpol hd ht hs hnw hz1 hz2 hbl hpl b1 b2 b3 b4 b5 b6 hl
  go_enter Tryz.func11, Tryz.ntmps11
  go_wp2_with fail
  have hp0 : Pu w (w.alloc (.cells #[.int .i64 per, .int .i64 keep, .slice A n c] 25)) := (Fr.refl _ _).alloc _
  have hb0 := heap_alloc_new w (.cells #[.int .i64 per, .int .i64 keep, .slice A n c] 25)
  generalize w.alloc (.cells #[.int .i64 per, .int .i64 keep, .slice A n c] 25) = w0 at *
  refine (C.out _).mono ?_
  rintro en w1 ⟨rfl, hp1⟩
  have Hp1 := Lib.hid (hp0.pu hp1)
  have hb1 := (hp1.block _ (blk_lt hb0) (fun h => h)).trans hb0
  obtain ⟨y0, y1, y2, yf⟩ := block3 hb1
  have hyl := blk_lt hb1
  clear hp1 hp0 hb0 hb1
  go_wp2_with fail
  have hp2 : Pu w1 (w1.alloc (.cells #[.int .i64 per, .int .i64 keep, .slice A n c, .pointer none, .pointer none, .pointer none, .int .i64 0, .slice none 0 0, .bool false, .int .u64 0, .int .u64 0, .slice none 0 0] 54)) := (Fr.refl _ _).alloc _
  have ha2 : ArchR (w1.alloc (.cells #[.int .i64 per, .int .i64 keep, .slice A n c, .pointer none, .pointer none, .pointer none, .int .i64 0, .slice none 0 0, .bool false, .int .u64 0, .int .u64 0, .slice none 0 0] 54)) w1.heap.size per keep A n c none none none := heap_alloc_new w1 _
  generalize w1.alloc (.cells #[.int .i64 per, .int .i64 keep, .slice A n c, .pointer none, .pointer none, .pointer none, .int .i64 0, .slice none 0 0, .bool false, .int .u64 0, .int .u64 0, .slice none 0 0] 54) = w2 at *
  have hgw := Hp1.out.size
  have Ha2 := Lib.hid ha2
  have Hp2 := Lib.hid (Hp1.out.pu hp2)
  clear ha2 hp2 y0 y1 y2 yf hyl
  generalize w1.heap.size = g at *
  refine (CF.out w2 (Hd.out.pu Hp2.out)).mono ?_
  rintro en w3 ⟨rfl, hp3⟩
  have Ha3 := Lib.hid (Ha2.out.fr hp3 (fun h => h))
  have Hp3 := Lib.hid (Hp2.out.pu hp3)
  have hgl3 := blk_lt Ha3.out
  clear hp3 Ha2
  go_wp2_with fail
  have hp4 : Pu w3 (w3.alloc (.cells #[.int .i64 2, .int .i64 1, .int .i64 slots, .int .i64 segs, .int .i64 size] 82)) := (Fr.refl _ _).alloc _
  have hb4 := heap_alloc_new w3 (.cells #[.int .i64 2, .int .i64 1, .int .i64 slots, .int .i64 segs, .int .i64 size] 82)
  generalize w3.alloc (.cells #[.int .i64 2, .int .i64 1, .int .i64 slots, .int .i64 segs, .int .i64 size] 82) = w4 at *
  have hbw := Hp3.out.size
  have Ha4 := Lib.hid (Ha3.out.fr hp4 (fun h => h))
  have Hp4 := Lib.hid (Hp3.out.pu hp4)
  have hggd : g ≠ gd := by omega
  have hgdg : gd ≠ g := by omega
  have hbgd : w3.heap.size ≠ gd := by omega
  clear hp4 Ha3 hgl3
  generalize w3.heap.size = b at *
  refine (CS.out w4 (Hd.out.pu Hp4.out)).mono ?_
  rintro en w5 ⟨rfl, hr5, hf5⟩
  have Ha5 := Lib.hid (Ha4.out.fr hf5 hggd)
  have Hf5 := Lib.hid ((Hp4.out.any : Fr (At gd) w w4).trans hf5 (fun _ _ h => h))
  have Hb5 := Lib.hid ((hf5.block b (blk_lt hb4) hbgd).trans hb4)
  have Hr5 := Lib.hid hr5
  have hgl4 := blk_lt Ha4.out
  clear hr5 hf5 hb4 Ha4 Hp4 Hp3
  obtain ⟨t0, t1, t2, t3, t4, tf⟩ := sup_block Hb5.out
  have hbl5 := blk_lt Hb5.out
  go_wp2_with fail
  refine (CK.out w5 Hr5.out).mono ?_
  rintro en w6 ⟨kt, rfl, ht6, hs6, hp6⟩
  have hgl5 := blk_lt Ha5.out
  have hktg : kt ≠ g := by omega
  have hktgd : kt ≠ gd := by have := Hr5.out.lt; omega
  have Ha6 := Lib.hid (Ha5.out.fr hp6 (fun h => h))
  have Hb6 := Lib.hid ((hp6.block b hbl5 (fun h => h)).trans Hb5.out)
  have Hr6 := Lib.hid (Hr5.out.pu hp6)
  have Hf6 := Lib.hid (Hf5.out.pu' hp6)
  have Ht6 := Lib.hid ht6
  clear ht6 hp6 t0 t1 t2 t3 t4 tf hbl5 Ha5 Hb5 Hr5 Hf5
  obtain ⟨t0, t1, t2, t3, t4, tf⟩ := sup_block Hb6.out
  have hbl6 := blk_lt Hb6.out
  obtain ⟨-, x4, -, -, xf⟩ := Ha6.out.cells
  have hgl6 := blk_lt Ha6.out
  have hgb : g ≠ b := by intro e; have h1 := Ha6.out; unfold ArchR at h1; rw [e, Hb6.out] at h1; injection h1 with h1; injection h1 with _ h1; exact absurd h1 (by decide)
  have hbg : b ≠ g := fun e => hgb e.symm
  go_wp2_with fail
  have hf7 : Fr (At g) w6 (w6.setCell ⟨g, 4, none⟩ (.pointer (some ⟨kt, 0, none⟩))) := (Fr.refl _ _).set _ _ (fun _ => rfl)
  have ha7 := Ha6.out.set4 (some ⟨kt, 0, none⟩)
  generalize w6.setCell ⟨g, 4, none⟩ (.pointer (some ⟨kt, 0, none⟩)) = w7 at *
  have Ha7 := Lib.hid ha7
  have Hr7 := Lib.hid (Hr6.out.away Ha6.out Ha6.out.noT hgdg hf7)
  have Ht7 := Lib.hid (Ht6.out.away Ha6.out (by decide) hktg hf7)
  have Hf7 := Lib.hid (Hf6.out.trans hf7 (fun k hk e => by have e : k = g := e; omega))
  clear ha7 hf7 t0 t1 t2 t3 t4 tf x4 xf hgl6 Ha6 Hr6 Ht6 Hf6
  refine (CL.out w7 Hr7.out).mono ?_
  rintro en w8 ⟨lg, rfl, hlg, hslg, hr8, hf8⟩
  have hgl7 := blk_lt Ha7.out
  have hlgg : lg ≠ g := by omega
  have hlgl : lg < w8.heap.size := World.block_lt_of_cell? w8 _ hlg
  obtain ⟨_, _, _, hdb, -⟩ := Hr7.out
  have Ha8 := Lib.hid (Ha7.out.fr hf8 hggd)
  have Ht8 := Lib.hid (Ht7.out.away hdb (by decide) hktgd hf8)
  have Hf8 := Lib.hid (Hf7.out.trans hf8 (fun _ _ h => h))
  have Hr8 := Lib.hid hr8
  clear hr8 hf8 hdb Ha7 Ht7 Hf7
  obtain ⟨x3, -, -, -, xf⟩ := Ha8.out.cells
  have hgl8 := blk_lt Ha8.out
  go_wp2_with fail
  have hf9 : Fr (At g) w8 (w8.setCell ⟨g, 3, none⟩ (.pointer (some ⟨lg, 0, none⟩))) := (Fr.refl _ _).set _ _ (fun _ => rfl)
  have ha9 := Ha8.out.set3 (some ⟨lg, 0, none⟩)
  generalize w8.setCell ⟨g, 3, none⟩ (.pointer (some ⟨lg, 0, none⟩)) = w9 at *
  have Ha9 := Lib.hid ha9
  have Hr9 := Lib.hid (Hr8.out.away Ha8.out Ha8.out.noT hgdg hf9)
  have Ht9 := Lib.hid (Ht8.out.away Ha8.out (by decide) hktg hf9)
  have Hf9 := Lib.hid (Hf8.out.trans hf9 (fun k hk e => by have e : k = g := e; omega))
  clear ha9 hf9 x3 xf hgl8 Ha8 Hr8 Ht8 Hf8 hlg
  refine (refOfNil w9).mono ?_
  rintro en w10 ⟨ld, rfl, hld, hsld, hp10⟩
  have hgl9 := blk_lt Ha9.out
  have hldg : ld ≠ g := by omega
  have Ha10 := Lib.hid (Ha9.out.fr hp10 (fun h => h))
  have Hr10 := Lib.hid (Hr9.out.pu hp10)
  have Ht10 := Lib.hid (Ht9.out.pu hp10)
  have Hf10 := Lib.hid (Hf9.out.pu' hp10)
  have Hld10 := Lib.hid hld
  clear hp10 hld Ha9 Hr9 Ht9 Hf9
  obtain ⟨-, x4, x5, -, xf⟩ := Ha10.out.cells
  have hgl10 := blk_lt Ha10.out
  go_wp2_with fail
  have hf11 : Fr (At g) w10 (w10.setCell ⟨g, 5, none⟩ (.pointer (some ⟨ld, 0, none⟩))) := (Fr.refl _ _).set _ _ (fun _ => rfl)
  have ha11 := Ha10.out.set5 (some ⟨ld, 0, none⟩)
  generalize w10.setCell ⟨g, 5, none⟩ (.pointer (some ⟨ld, 0, none⟩)) = w11 at *
  have Ha11 := Lib.hid ha11
  have Hr11 := Lib.hid (Hr10.out.away Ha10.out Ha10.out.noT hgdg hf11)
  have Ht11 := Lib.hid (Ht10.out.away Ha10.out (by decide) hktg hf11)
  have Hf11 := Lib.hid (Hf10.out.trans hf11 (fun k hk e => by have e : k = g := e; omega))
  have Hld11 := Lib.hid (show LedR w11 ld from (hf11.cell ld 0 Hld10.out.lt hldg).trans Hld10.out)
  clear ha11 hf11 x4 x5 xf hgl10 Ha10 Hr10 Ht10 Hf10 Hld10
  obtain ⟨-, x4, x5, x6, xf⟩ := Ha11.out.cells
  have hgl11 := blk_lt Ha11.out
  refine (refBuckets Ht11.out hsl).mono ?_
  rintro en w' ⟨rfl, rfl⟩
  go_wp2_with fail
  refine wp_loop_rounds 1 ?_
  rw [rounds_succ]
  go_wp2_with fail
  refine (refBuckets Ht11.out hsl).mono ?_
  rintro en w' ⟨rfl, rfl⟩
  go_wp2_with fail
  refine wp_loop_rounds 1 ?_
  rw [rounds_succ]
  go_wp2_with fail
  refine (refTime Hld11.out).mono ?_
  rintro en w' ⟨rfl, rfl⟩
  go_wp2
  go_ret2
  have hf12 : Fr (At g) w11 (w11.setCell ⟨g, 6, none⟩ (.int .i64 0)) := (Fr.refl _ _).set _ _ (fun _ => rfl)
  obtain ⟨-, -, -, z6, -⟩ := Ha11.out.set6.cells
  exact ⟨g, rfl, z6, hgw, Hr11.out.away Ha11.out Ha11.out.noT hgdg hf12, Hf11.out.trans hf12 (fun k hk e => by have e : k = g := e; omega)⟩
end
end Go.Proofs.YtaendhbiehknlaaGreatDoor
