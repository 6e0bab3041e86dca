/- What is proved here, of the given program: The statement: what it does behind its guard. -/
import Derived.Test.YtaendhbiehknlaaGreatDoorU48
set_option linter.unusedVariables false
set_option linter.unusedSimpArgs false
set_option linter.constructorNameAsVariable false
namespace Go.Proofs.YtaendhbiehknlaaGreatDoor
open Go.RowKit Go.Shelf Go.Proofs

/-- An archive's error, or none. -/
def ErrOr (w : World) (v : Value) (f : Int) : Prop := (f = 0 ∧ v = .nilIface) ∨ (f ≠ 0 ∧ ∃ l : List (Bytes × Int), l.length ≤ 100 ∧ ErrIs w v ((archT, 0) :: l) f)
theorem ErrOr.pu {w w1 : World} {v : Value} {f : Int} (h : ErrOr w v f) (hp : Pu w w1) : ErrOr w1 v f := by
  rcases h with h | ⟨h0, l, hl, h⟩
  · exact .inl h
  · exact .inr ⟨h0, l, hl, h.pu hp⟩
theorem lawCodeAny {w : World} {v : Value} {f : Int} (h : ErrOr w v f) (hG : ErrG w) : Calls Tryz.prog 7 #[v, .string (str archT), .int .i64 0] w fun en w' => en = .returned (.int .i64 f) ∧ Pu w w' := by
  rcases h with ⟨rfl, rfl⟩ | ⟨-, l, hl, h⟩
  · exact (lawCodeNil archT 0 w).mono fun en w' ⟨h1, h2⟩ => ⟨h1, h2 ▸ Fr.refl _ _⟩
  · exact lawCode v archT 0 l f w h hl hG
theorem lawCodeLit {w : World} {v : Value} {f : Int} (h : ErrOr w v f) (hG : ErrG w) : Calls Tryz.prog 7 #[v, .string ⟨#[97, 114, 99, 104, 105, 118, 101]⟩, .int .i64 0] w fun en w' => en = .returned (.int .i64 f) ∧ Pu w w' := lawCodeAny h hG
abbrev C3 (b : Nat) (x y z : Value) (w' : World) : Prop := w'.cell? ⟨b, 0, none⟩ = some x ∧ w'.cell? ⟨b, 1, none⟩ = some y ∧ w'.cell? ⟨b, 2, none⟩ = some z
theorem C3.fr {S : Nat → Prop} {b : Nat} {x y z : Value} {w w' : World} (hp : Fr S w w') (hb : ¬ S b) (h : C3 b x y z w) : C3 b x y z w' := by
  obtain ⟨h0, h1, h2⟩ := h
  have hl : b < w.heap.size := World.block_lt_of_cell? w _ h1
  exact ⟨(hp.cell b _ hl hb).trans h0, (hp.cell b _ hl hb).trans h1, (hp.cell b _ hl hb).trans h2⟩
theorem C3.drew {b : Nat} {x y z : Value} {w : World} (h : C3 b x y z w) : C3 b x y z w.drew := C3.fr ((Fr.refl No w).drew) (fun h => h) h
theorem ArchNew.t {w : World} {g : Nat} {per keep : Int} {name : Bytes} {lg kt ld dq : Nat} (h : ArchNew w g per keep name lg kt ld dq) : ∃ A c mp, ArchT w g 0 per keep A name.length c (some ⟨lg, 0, none⟩) (some ⟨kt, 0, none⟩) (some ⟨ld, 0, none⟩) mp none (some ⟨dq, 0, none⟩) := by
  obtain ⟨⟨A, c, mp, h1, -⟩, -⟩ := h
  exact ⟨A, c, mp, h1⟩
/-- The facts that the statement's calls stand on. -/
structure Both (w : World) (k : Nat) (a b c per keep : Int) (A : Option Addr) (cp : Nat) (name : Bytes) (f1 f2 : Int) (im1 im2 : Bytes) : Prop where
  fa : ∀ W gd, DiskNil W gd (zeros (k * 128)) (-1) → Calls Tryz.prog 8 #[.pointer (some ⟨gd, 0, none⟩), .int .i64 a, .int .i64 b, .int .i64 c] W fun en w' => ∃ v, en = .returned v ∧ ErrOr w' v f1 ∧ DiskNil w' gd im1 (-1) ∧ Fr (At gd) W w'
  fb : ∀ W ge, RefAt W ge (zeros (k * 128)) [] → Calls Tryz.prog 9 #[.pointer (some ⟨ge, 0, none⟩), .int .i64 a, .int .i64 b, .int .i64 c] W fun en w' => en = .returned (.int .i64 f1) ∧ RefAt w' ge im1 [] ∧ Fr (At ge) W w'
  len : im2.length % 128 = 0 ∧ 1 ≤ im2.length / 128 ∧ im2.length ≤ 17592186044416
  len1 : 1 ≤ im1.length / 128
structure BothYes (w : World) (k : Nat) (a b c per keep : Int) (A : Option Addr) (cp : Nat) (name : Bytes) (f1 : Int) (im1 im2 : Bytes) : Prop extends Both w k a b c per keep A cp name f1 0 im1 im2 where
  oc : ∀ W gd, Bs Tr W (.slice A name.length cp) name → DiskNil W gd im1 (-1) → Calls Tryz.prog 10 #[.pointer (some ⟨gd, 0, none⟩), .agg #[.int .i64 per, .int .i64 keep, .slice A name.length cp]] W fun en w' => ∃ g lg kt ld dq, en = .returned (.tuple #[.pointer (some ⟨g, 0, none⟩), .nilIface]) ∧ ArchNew w' g per keep name lg kt ld dq ∧ W.heap.size ≤ g ∧ gd ≠ g ∧ DiskNil w' gd im2 (-1) ∧ Fr (At gd) W w'
  od : ∀ W ge, RefAt W ge im1 [] → Calls Tryz.prog 11 #[.pointer (some ⟨ge, 0, none⟩), .agg #[.int .i64 per, .int .i64 keep, .slice A name.length cp]] W fun en w' => ∃ g, en = .returned (.tuple #[.pointer (some ⟨g, 0, none⟩), .int .i64 0]) ∧ w'.cell? ⟨g, 6, none⟩ = some (.int .i64 0) ∧ W.heap.size ≤ g ∧ RefAt w' ge im2 [] ∧ Fr (At ge) W w'
structure BothNo (w : World) (k : Nat) (a b c per keep : Int) (A : Option Addr) (cp : Nat) (name : Bytes) (f1 f2 : Int) (im1 im2 : Bytes) : Prop extends Both w k a b c per keep A cp name f1 f2 im1 im2 where
  oc : ∀ W gd, Bs Tr W (.slice A name.length cp) name → DiskNil W gd im1 (-1) → Calls Tryz.prog 10 #[.pointer (some ⟨gd, 0, none⟩), .agg #[.int .i64 per, .int .i64 keep, .slice A name.length cp]] W fun en w' => ∃ v, en = .returned (.tuple #[.pointer none, v]) ∧ ErrOr w' v f2 ∧ DiskNil w' gd im2 (-1) ∧ Fr (At gd) W w'
  od : ∀ W ge, RefAt W ge im1 [] → Calls Tryz.prog 11 #[.pointer (some ⟨ge, 0, none⟩), .agg #[.int .i64 per, .int .i64 keep, .slice A name.length cp]] W fun en w' => en = .returned (.tuple #[.pointer none, .int .i64 f2]) ∧ RefAt w' ge im2 [] ∧ Fr (At ge) W w'
  ne : f2 ≠ 0
theorem ErrOr.errFr {w w1 : World} {v : Value} {f : Int} {k : Nat} {img : Bytes} (h : ErrOr w v f) (hr : RefAt w k img []) (hf : Fr (At k) w w1) : ErrOr w1 v f := by
  rcases h with h | ⟨h0, l, hl, h⟩
  · exact .inl h
  · refine .inr ⟨h0, l, hl, h.move (fun m cs hm => (hf.block m (blk_lt hm) (fun e => ?_)).trans hm)⟩
    have e : m = k := e
    obtain ⟨_, _, _, hb, -⟩ := hr
    rw [e, hb] at hm
    injection hm with hm
    injection hm with _ hm
    exact absurd hm (by decide)
set_option maxRecDepth 100000 in
set_option maxHeartbeats 40000000 in
theorem lawNo {w : World} {n k : Nat} {a b c per keep : Int} {A : Option Addr} {cp : Nat} {name : Bytes} {f1 f2 : Int} {im1 im2 : Bytes} (hk : k = 1 + n) (hn : n ≤ 255) (hv : Bs Tr w (.slice A name.length cp) name) (hnl : name.length ≤ 60) (ha : a ≤ 1000) (hb : b ≤ 1000) (hc : c ≤ 1000) (hG : Globs w) (hE : ErrG w) (H : BothNo w k a b c per keep A cp name f1 f2 im1 im2) :
    Calls Tryz.prog 3 #[.int .u8 n, .agg #[.int .i64 a, .int .i64 b, .int .i64 c], .agg #[.int .i64 per, .int .i64 keep, .slice A name.length cp]] w fun e w' => e = .returned (.bool true) ∧ Pu w w' := by
  obtain ⟨hil1, hil2, hil3⟩ := H.len
  have hil4 := H.len1
  have FA := Lib.hid H.fa
  have FB := Lib.hid H.fb
  have OC := Lib.hid H.oc
  have OD := Lib.hid H.od
  have hne := H.ne
  have hneB : (f2 != 0) = true := by simpa using hne
  have hneQ : (f2 == 0) = false := by simpa using hne
  have CN1 := Lib.hid (fun W : World => diskNew k W (by omega) (by omega))
  have CN2 := Lib.hid (fun W : World => refNew k W (by omega))
  have hz1 : 1 ≤ (zeros (k * 128)).length / 128 := by rw [zeros_length]; omega
  have e1 : IntKind.i64.wrap (n : Int) = (n : Int) := IntWalk.i64_in _ (by omega)
  have e2 : (1 : Int) + (n : Int) = (k : Int) := by omega
  have e3 : IntKind.i64.wrap (k : Int) = (k : Int) := IntWalk.i64_in _ (by omega)
  have hHG := Lib.hid hG
  have HE := Lib.hid hE
  have Hv := Lib.hid hv
  have hc1 : decide ((60 : Int) < (name.length : Int)) = false := by simp; omega
  have hc2 : ¬ (60 : Int) < (name.length : Int) := by omega
  have ha2 : ¬ 1000 < a := by omega
  have hb2 : ¬ 1000 < b := by omega
  have hcc2 : ¬ 1000 < c := by omega
  generalize zeros (k * 128) = zn at *
  clear H hG hE hv hk
  go_enter Tryz.func3, Tryz.ntmps3
  go_wp2_with fail
  have hp0 : Pu w ((w.alloc (.cells #[.int .i64 a, .int .i64 b, .int .i64 c] 22)).alloc (.cells #[.int .i64 per, .int .i64 keep, .slice A name.length cp] 25)) := ((Fr.refl _ _).alloc _).alloc _
  have hs1 : (w.alloc (.cells #[.int .i64 a, .int .i64 b, .int .i64 c] 22)).heap.size = w.heap.size + 1 := by simp
  have hn0 := (heap_alloc_old (w.alloc (.cells #[.int .i64 a, .int .i64 b, .int .i64 c] 22)) (.cells #[.int .i64 per, .int .i64 keep, .slice A name.length cp] 25) _ (by rw [hs1]; exact Nat.lt_succ_self _)).trans (heap_alloc_new w (.cells #[.int .i64 a, .int .i64 b, .int .i64 c] 22))
  have hq0 := heap_alloc_new (w.alloc (.cells #[.int .i64 a, .int .i64 b, .int .i64 c] 22)) (.cells #[.int .i64 per, .int .i64 keep, .slice A name.length cp] 25)
  rw [hs1] at hq0
  generalize (w.alloc (.cells #[.int .i64 a, .int .i64 b, .int .i64 c] 22)).alloc (.cells #[.int .i64 per, .int .i64 keep, .slice A name.length cp] 25) = w0 at *
  have hN : w.heap.size + 1 < w0.heap.size := blk_lt hq0
  refine (lawAwake w0 (hHG.out.pu hp0) (HE.out.pu hp0)).mono ?_
  rintro e w1 ⟨rfl, hp1⟩
  have Hp1 := Lib.hid (hp0.pu hp1)
  have Hn1 := Lib.hid ((hp1.block _ (blk_lt hn0) (fun h => h)).trans hn0)
  have Hq1 := Lib.hid ((hp1.block _ (blk_lt hq0) (fun h => h)).trans hq0)
  have hN1 : w.heap.size + 1 < w1.heap.size := blk_lt Hq1.out
  clear hp0 hp1 hn0 hq0 hs1 hN
  obtain ⟨y0, y1, y2, yf⟩ := block3 Hn1.out
  obtain ⟨z0, z1, z2, zf⟩ := block3 Hq1.out
  go_wp2_with fail
  refine (CN1.out _).mono ?_
  rintro e w2 ⟨gd, rfl, hgd, hd2, hp2⟩
  have hgdw : w.heap.size ≤ gd := Nat.le_trans Hp1.out.size hgd
  have hgdn : w.heap.size ≠ gd := by omega
  have hgdq : w.heap.size + 1 ≠ gd := by omega
  have Hp2 := Lib.hid (Hp1.out.pu hp2)
  have Hn2 := Lib.hid ((hp2.block _ (blk_lt Hn1.out) (fun h => h)).trans Hn1.out)
  have Hq2 := Lib.hid ((hp2.block _ (blk_lt Hq1.out) (fun h => h)).trans Hq1.out)
  have Hd2 := Lib.hid hd2
  have hdl := hd2.at_.lt
  clear hp2 hd2 Hp1 Hn1 Hq1 y0 y1 y2 yf z0 z1 z2 zf
  go_wp2_with fail
  refine (CN2.out _).mono ?_
  rintro e w3 ⟨ge, rfl, hge, hr3, hp3⟩
  have hgew : w.heap.size ≤ ge := Nat.le_trans Hp2.out.size hge
  have hgen : w.heap.size ≠ ge := by omega
  have hgeq : w.heap.size + 1 ≠ ge := by omega
  have hne1 : gd ≠ ge := by omega
  have hne2 : ge ≠ gd := by omega
  have Hp3 := Lib.hid (Hp2.out.pu hp3)
  have Hn3 := Lib.hid ((hp3.block _ (blk_lt Hn2.out) (fun h => h)).trans Hn2.out)
  have Hq3 := Lib.hid ((hp3.block _ (blk_lt Hq2.out) (fun h => h)).trans Hq2.out)
  have Hd3 := Lib.hid (Hd2.out.pu hp3)
  have Hr3 := Lib.hid hr3
  have hN3 : w.heap.size + 1 < w3.heap.size := blk_lt Hq3.out
  clear hp3 hr3 Hp2 Hn2 Hq2 Hd2 hN1
  obtain ⟨y0, y1, y2, yf⟩ := block3 Hn3.out
  go_wp2_with fail
  have hL : C3 w.heap.size (.int .i64 a) (.int .i64 b) (.int .i64 c) w3 := ⟨y0, y1, y2⟩
  go_region_held3 (fun w' => w'.cell? ⟨w.heap.size, 0, none⟩ = some (.int .i64 a) ∧ w'.cell? ⟨w.heap.size, 1, none⟩ = some (.int .i64 b) ∧ w'.cell? ⟨w.heap.size, 2, none⟩ = some (.int .i64 c))
    (first | with_reducible exact hL | with_reducible exact hk | with_reducible exact C3.drew hL | with_reducible exact C3.drew (by assumption))
    (first
      | (go_at_call 8; (with_reducible refine (archFormatNil 1 1 2 _).mono ?_); rintro e w4 ⟨v4, rfl, he4, hp4⟩; have hk := C3.fr (b := w.heap.size) (x := .int .i64 a) (y := .int .i64 b) (z := .int .i64 c) hp4 (fun h => h) (by assumption); have HO4 := Lib.hid (show ErrOr w4 v4 1 from .inr ⟨by decide, [], by decide, he4⟩); have HP4 := Lib.hid (Hp3.out.pu (((Fr.refl No w3).drew).pu hp4)); have HQ4 := Lib.hid (((Fr.refl No w3).drew).pu hp4); clear he4 hp4)
      | (go_at_call 7; have Cx := lawCodeLit HO4.out (HE.out.pu HP4.out); (with_reducible refine Cx.mono ?_); clear Cx; rintro e w5 ⟨rfl, hp5⟩; have hk := C3.fr (b := w.heap.size) (x := .int .i64 a) (y := .int .i64 b) (z := .int .i64 c) hp5 (fun h => h) (by assumption); have HP5 := Lib.hid (HP4.out.pu hp5); have HD5 := Lib.hid (Hd3.out.pu (HQ4.out.pu hp5)); have HR5 := Lib.hid (Hr3.out.pu (HQ4.out.pu hp5)); have HQ5 := Lib.hid (HQ4.out.pu hp5); clear hp5)
      | (go_at_call 8; have Cx := FA.out _ gd HD5.out; (with_reducible refine Cx.mono ?_); clear Cx; rintro e w6 ⟨v6, rfl, he6, hd6, hf6⟩; have hk := C3.fr (b := w.heap.size) (x := .int .i64 a) (y := .int .i64 b) (z := .int .i64 c) hf6 hgdn (by assumption); have HO6 := Lib.hid he6; have HP6 := Lib.hid (fr_pu HP5.out hgdw hf6); have HD6 := Lib.hid hd6; have HR6 := Lib.hid (show RefAt w6 ge zn [] from by obtain ⟨_, hdb, hdn⟩ := HD5.out.noT; exact HR5.out.away hdb hdn hne2 hf6); have HB6 := Lib.hid ((hf6.block _ (blk_lt ((HQ5.out.block _ (blk_lt Hq3.out) (fun h => h)).trans Hq3.out)) hgdq).trans ((HQ5.out.block _ (blk_lt Hq3.out) (fun h => h)).trans Hq3.out)); clear he6 hd6 hf6)
      | (go_at_call 7; have Cx := lawCodeLit HO6.out (HE.out.pu HP6.out); (with_reducible refine Cx.mono ?_); clear Cx; rintro e w7 ⟨rfl, hp7⟩; have hk := C3.fr (b := w.heap.size) (x := .int .i64 a) (y := .int .i64 b) (z := .int .i64 c) hp7 (fun h => h) (by assumption); have HP7 := Lib.hid (HP6.out.pu hp7); have HD7 := Lib.hid (HD6.out.pu hp7); have HR7 := Lib.hid (HR6.out.pu hp7); have HB7 := Lib.hid ((hp7.block _ (blk_lt HB6.out) (fun h => h)).trans HB6.out); clear hp7)
      | (go_at_call 9; have Cx := FB.out _ ge HR7.out; (with_reducible refine Cx.mono ?_); clear Cx; rintro e w8 ⟨rfl, hr8, hf8⟩; have hk := C3.fr (b := w.heap.size) (x := .int .i64 a) (y := .int .i64 b) (z := .int .i64 c) hf8 hgen (by assumption); have HP8 := Lib.hid (fr_pu HP7.out hgew hf8); have HR8 := Lib.hid hr8; have HD8 := Lib.hid (show DiskNil w8 gd im1 (-1) from by obtain ⟨_, hrb, hrn⟩ := HR7.out.noU; exact HD7.out.away hrb hrn hne1 hf8); have HB8 := Lib.hid ((hf8.block _ (blk_lt HB7.out) hgeq).trans HB7.out); clear hr8 hf8))
  all_goals
    rename_i hHeld
    clear hHeld hL y0 y1 y2 yf
    try clear hk
  all_goals
    obtain ⟨z0, z1, z2, zf⟩ := block3 HB8.out
    have hN8 := blk_lt HB8.out
    go_wp2_with fail
    refine (OC.out _ gd (Hv.out.pu HP8.out) HD8.out).mono ?_
    rintro e w9 ⟨v9, rfl, he9, hd9, hf9⟩
    have HP9 := Lib.hid (fr_pu HP8.out hgdw hf9)
    have HD9 := Lib.hid hd9
    have HR9 := Lib.hid (show RefAt w9 ge im1 [] from by obtain ⟨_, hdb, hdn⟩ := HD8.out.noT; exact HR8.out.away hdb hdn hne2 hf9)
    have HB9 := Lib.hid ((hf9.block _ hN8 hgdq).trans HB8.out)
    have HO9 := Lib.hid he9
    clear he9
    clear hd9 hf9 z0 z1 z2 zf hN8 HP8 HD8 HR8 HB8
    obtain ⟨z0, z1, z2, zf⟩ := block3 HB9.out
    have hN9 := blk_lt HB9.out
    go_wp2_with fail
    refine (OD.out _ ge HR9.out).mono ?_
    rintro e w10 ⟨rfl, hr10, hf10⟩
    have HO10 := Lib.hid (HO9.out.errFr HR9.out hf10)
    have HP10 := Lib.hid (fr_pu HP9.out hgew hf10)
    have HR10 := Lib.hid hr10
    have HD10 := Lib.hid (show DiskNil w10 gd im2 (-1) from by obtain ⟨_, hrb, hrn⟩ := HR9.out.noU; exact HD9.out.away hrb hrn hne1 hf10)
    have HB10 := Lib.hid ((hf10.block _ hN9 hgeq).trans HB9.out)
    clear hr10 hf10 z0 z1 z2 zf hN9 HP9 HD9 HR9 HB9
    go_wp2_with fail
    have hqn : QOk im2.length [] := fun x hx => by simp at hx
    have hee : ((str im2).toList == (str im2).toList) = true := beq_self_eq_true _
    refine wp_region_held_drew (S := fun _ => True) (by kernel_rfl) trivial (fun hHeld => ?_)
    (refine wpAnyH_take (i := 0) (v := ?_) rfl (by kernel_rfl) (by kernel_rfl) (by kernel_rfl) (fun _ _ _ h => h) (Or.inl ⟨by kernel_rfl, ?_⟩) (by assumption) ?_; rotate_left; (simp only [List.getElem_toArray, List.getElem_cons_succ, List.getElem_cons_zero]); (intro w hSw; go_simp); (try with_reducible rfl); (try simp only [Act.put, List.getElem_toArray, List.getElem_cons_succ, List.getElem_cons_zero, List.setIfInBounds_toArray, List.set_cons_zero, List.set_cons_succ]))
    (refine wpAnyH_take (i := 2) (v := ?_) rfl (by kernel_rfl) (by kernel_rfl) (by kernel_rfl) (fun _ _ _ h => h) (Or.inl ⟨by kernel_rfl, ?_⟩) (by assumption) ?_; rotate_left; (simp only [List.getElem_toArray, List.getElem_cons_succ, List.getElem_cons_zero]); (intro w hSw; go_simp); (try with_reducible rfl); (try simp only [Act.put, List.getElem_toArray, List.getElem_cons_succ, List.getElem_cons_zero, List.setIfInBounds_toArray, List.set_cons_zero, List.set_cons_succ]))
    refine wpAnyH_ready (rs := [1]) (by kernel_rfl) (by simp) ?_
    refine AllReadyH.cons rfl (fun K hK => ?_) AllReadyH.nil
    go_simp
    have Cx := lawCodeLit (ErrOr.pu HO10.out ((Fr.refl No w10).drew)) (HE.out.pu (HP10.out.pu ((Fr.refl No w10).drew)))
    refine Cx.mono ?_
    clear Cx
    rintro e w11 ⟨rfl, hp11⟩
    have HQ11 := Lib.hid (((Fr.refl No w10).drew).pu hp11)
    have HP11 := Lib.hid (HP10.out.pu HQ11.out)
    clear hp11
    refine hK.out _ _ trivial (fun hHeld => ?_)
    clear hK K
    (try simp only [Act.put, List.getElem_toArray, List.getElem_cons_succ, List.getElem_cons_zero, List.setIfInBounds_toArray, List.set_cons_zero, List.set_cons_succ])
    (refine wpAnyH_take (i := 3) (v := ?_) rfl (by kernel_rfl) (by kernel_rfl) (by kernel_rfl) (fun _ _ _ h => h) (Or.inl ⟨by kernel_rfl, ?_⟩) (by assumption) ?_; rotate_left; (simp only [List.getElem_toArray, List.getElem_cons_succ, List.getElem_cons_zero]); (intro w hSw; go_simp); (try with_reducible rfl); (try simp only [Act.put, List.getElem_toArray, List.getElem_cons_succ, List.getElem_cons_zero, List.setIfInBounds_toArray, List.set_cons_zero, List.set_cons_succ]))
    (refine wpAnyH_take (i := 4) (v := ?_) rfl (by kernel_rfl) (by kernel_rfl) (by kernel_rfl) (fun _ _ _ h => h) (Or.inl ⟨by kernel_rfl, ?_⟩) (by assumption) ?_; rotate_left; (simp only [List.getElem_toArray, List.getElem_cons_succ, List.getElem_cons_zero]); (intro w hSw; go_simp); (try with_reducible rfl); (try simp only [Act.put, List.getElem_toArray, List.getElem_cons_succ, List.getElem_cons_zero, List.setIfInBounds_toArray, List.set_cons_zero, List.set_cons_succ]))
    (refine wpAnyH_take (i := 5) (v := ?_) rfl (by kernel_rfl) (by kernel_rfl) (by kernel_rfl) (fun _ _ _ h => h) (Or.inl ⟨by kernel_rfl, ?_⟩) (by assumption) ?_; rotate_left; (simp only [List.getElem_toArray, List.getElem_cons_succ, List.getElem_cons_zero]); (intro w hSw; go_simp); (try with_reducible rfl); (try simp only [Act.put, List.getElem_toArray, List.getElem_cons_succ, List.getElem_cons_zero, List.setIfInBounds_toArray, List.set_cons_zero, List.set_cons_succ]))
    (refine wpAnyH_take (i := 6) (v := ?_) rfl (by kernel_rfl) (by kernel_rfl) (by kernel_rfl) (fun _ _ _ h => h) (Or.inl ⟨by kernel_rfl, ?_⟩) (by assumption) ?_; rotate_left; (simp only [List.getElem_toArray, List.getElem_cons_succ, List.getElem_cons_zero]); (intro w hSw; go_simp); (try with_reducible rfl); (try simp only [Act.put, List.getElem_toArray, List.getElem_cons_succ, List.getElem_cons_zero, List.setIfInBounds_toArray, List.set_cons_zero, List.set_cons_succ]))
    (refine wpAnyH_take (i := 7) (v := ?_) rfl (by kernel_rfl) (by kernel_rfl) (by kernel_rfl) (fun _ _ _ h => h) (Or.inl ⟨by kernel_rfl, ?_⟩) (by assumption) ?_; rotate_left; (simp only [List.getElem_toArray, List.getElem_cons_succ, List.getElem_cons_zero]); (intro w hSw; go_simp); (try with_reducible rfl); (try simp only [Act.put, List.getElem_toArray, List.getElem_cons_succ, List.getElem_cons_zero, List.setIfInBounds_toArray, List.set_cons_zero, List.set_cons_succ]))
    (refine wpAnyH_take (i := 8) (v := ?_) rfl (by kernel_rfl) (by kernel_rfl) (by kernel_rfl) (fun _ _ _ h => h) (Or.inl ⟨by kernel_rfl, ?_⟩) (by assumption) ?_; rotate_left; (simp only [List.getElem_toArray, List.getElem_cons_succ, List.getElem_cons_zero]); (intro w hSw; go_simp); (try with_reducible rfl); (try simp only [Act.put, List.getElem_toArray, List.getElem_cons_succ, List.getElem_cons_zero, List.setIfInBounds_toArray, List.set_cons_zero, List.set_cons_succ]))
    (refine wpAnyH_take (i := 9) (v := ?_) rfl (by kernel_rfl) (by kernel_rfl) (by kernel_rfl) (fun _ _ _ h => h) (Or.inl ⟨by kernel_rfl, ?_⟩) (by assumption) ?_; rotate_left; (simp only [List.getElem_toArray, List.getElem_cons_succ, List.getElem_cons_zero]); (intro w hSw; go_simp); (try with_reducible rfl); (try simp only [Act.put, List.getElem_toArray, List.getElem_cons_succ, List.getElem_cons_zero, List.setIfInBounds_toArray, List.set_cons_zero, List.set_cons_succ]))
    (refine wpAnyH_take (i := 10) (v := ?_) rfl (by kernel_rfl) (by kernel_rfl) (by kernel_rfl) (fun _ _ _ h => h) (Or.inl ⟨by kernel_rfl, ?_⟩) (by assumption) ?_; rotate_left; (simp only [List.getElem_toArray, List.getElem_cons_succ, List.getElem_cons_zero]); (intro w hSw; go_simp); (try with_reducible rfl); (try simp only [Act.put, List.getElem_toArray, List.getElem_cons_succ, List.getElem_cons_zero, List.setIfInBounds_toArray, List.set_cons_zero, List.set_cons_succ]))
    (refine wpAnyH_take (i := 11) (v := ?_) rfl (by kernel_rfl) (by kernel_rfl) (by kernel_rfl) (fun _ _ _ h => h) (Or.inl ⟨by kernel_rfl, ?_⟩) (by assumption) ?_; rotate_left; (simp only [List.getElem_toArray, List.getElem_cons_succ, List.getElem_cons_zero]); (intro w hSw; go_simp); (try with_reducible rfl); (try simp only [Act.put, List.getElem_toArray, List.getElem_cons_succ, List.getElem_cons_zero, List.setIfInBounds_toArray, List.set_cons_zero, List.set_cons_succ]))
    (refine wpAnyH_take (i := 12) (v := ?_) rfl (by kernel_rfl) (by kernel_rfl) (by kernel_rfl) (fun _ _ _ h => h) (Or.inl ⟨by kernel_rfl, ?_⟩) (by assumption) ?_; rotate_left; (simp only [List.getElem_toArray, List.getElem_cons_succ, List.getElem_cons_zero]); (intro w hSw; go_simp); (try with_reducible rfl); (try simp only [Act.put, List.getElem_toArray, List.getElem_cons_succ, List.getElem_cons_zero, List.setIfInBounds_toArray, List.set_cons_zero, List.set_cons_succ]))
    (refine wpAnyH_take (i := 15) (v := ?_) rfl (by kernel_rfl) (by kernel_rfl) (by kernel_rfl) (fun _ _ _ h => h) (Or.inl ⟨by kernel_rfl, ?_⟩) (by assumption) ?_; rotate_left; (simp only [List.getElem_toArray, List.getElem_cons_succ, List.getElem_cons_zero]); (intro w hSw; go_simp); (try with_reducible rfl); (try simp only [Act.put, List.getElem_toArray, List.getElem_cons_succ, List.getElem_cons_zero, List.setIfInBounds_toArray, List.set_cons_zero, List.set_cons_succ]))
    refine wpAnyH_ready (rs := [13]) (by kernel_rfl) (by simp) ?_
    refine AllReadyH.cons rfl (fun K hK => ?_) AllReadyH.nil
    go_simp
    have Cx := diskImage gd im2 [] (-1) w11 (HD10.out.pu HQ11.out).at_ hqn hil3
    refine Cx.mono ?_
    clear Cx
    rintro e w12 ⟨v12, rfl, ho12, hp12⟩
    obtain ⟨A12, c12, rfl⟩ := own_shape ho12
    have hcv := run_str (P := Tryz.prog) (Bs.own (show w12.ownsRow w11.heap.size 5 1 (.slice A12 im2.length c12) im2.length (u8s im2) from ho12)) Tryz.underlying23 Tryz.underlying5 Tryz.underlying9
    have HQ12 := Lib.hid (HQ11.out.pu hp12)
    have HP12 := Lib.hid (HP11.out.pu hp12)
    clear ho12 hp12
    refine hK.out _ _ trivial (fun hHeld => ?_)
    clear hK K
    (try simp only [Act.put, List.getElem_toArray, List.getElem_cons_succ, List.getElem_cons_zero, List.setIfInBounds_toArray, List.set_cons_zero, List.set_cons_succ])
    refine wpAnyH_ready (rs := [14, 16]) (by kernel_rfl) (by simp) ?_
    refine AllReadyH.cons rfl (fun K hK => ?_) (AllReadyH.cons rfl (fun K hK => ?_) AllReadyH.nil)
    go_simp
    refine hK.out _ _ trivial (fun hHeld => ?_)
    clear hK K
    (try simp only [Act.put, List.getElem_toArray, List.getElem_cons_succ, List.getElem_cons_zero, List.setIfInBounds_toArray, List.set_cons_zero, List.set_cons_succ])
    refine wpAnyH_ready (rs := [16]) (by kernel_rfl) (by simp) ?_
    refine AllReadyH.cons rfl (fun K hK => ?_) AllReadyH.nil
    go_simp
    have Cx : Calls Tryz.prog 13 #[.pointer (some ⟨ge, 0, none⟩)] w12 _ := refImage (HR10.out.pu HQ12.out) hqn hil3 hil1
    refine Cx.mono ?_
    clear Cx
    rintro e w' ⟨rfl, rfl⟩
    unfold tv
    rw [show lay im2 [] = im2 from rfl]
    refine hK.out _ _ trivial (fun hHeld => ?_)
    clear hK K
    (try simp only [Act.put, List.getElem_toArray, List.getElem_cons_succ, List.getElem_cons_zero, List.setIfInBounds_toArray, List.set_cons_zero, List.set_cons_succ])
    (refine wpAnyH_take (i := 17) (v := ?_) rfl (by kernel_rfl) (by kernel_rfl) (by kernel_rfl) (fun _ _ _ h => h) (Or.inl ⟨by kernel_rfl, ?_⟩) (by assumption) ?_; rotate_left; (simp only [List.getElem_toArray, List.getElem_cons_succ, List.getElem_cons_zero]); (intro w hSw; go_simp); (try with_reducible rfl); (try simp only [Act.put, List.getElem_toArray, List.getElem_cons_succ, List.getElem_cons_zero, List.setIfInBounds_toArray, List.set_cons_zero, List.set_cons_succ]))
    (refine wpAnyH_take (i := 18) (v := ?_) rfl (by kernel_rfl) (by kernel_rfl) (by kernel_rfl) (fun _ _ _ h => h) (Or.inl ⟨by kernel_rfl, ?_⟩) (by assumption) ?_; rotate_left; (simp only [List.getElem_toArray, List.getElem_cons_succ, List.getElem_cons_zero]); (intro w hSw; go_simp); (try with_reducible rfl); (try simp only [Act.put, List.getElem_toArray, List.getElem_cons_succ, List.getElem_cons_zero, List.setIfInBounds_toArray, List.set_cons_zero, List.set_cons_succ]))
    refine wpAnyH_done (by kernel_rfl) ?_ _
    rotate_left
    go_simp
    have Cx : Calls Tryz.prog 13 #[.pointer (some ⟨ge, 0, none⟩)] w12 _ := refImage (HR10.out.pu HQ12.out) hqn hil3 hil1
    refine Cx.mono ?_
    clear Cx
    rintro e w' ⟨rfl, rfl⟩
    unfold tv
    rw [show lay im2 [] = im2 from rfl]
    refine hK.out _ _ trivial (fun hHeld => ?_)
    clear hK K
    (try simp only [Act.put, List.getElem_toArray, List.getElem_cons_succ, List.getElem_cons_zero, List.setIfInBounds_toArray, List.set_cons_zero, List.set_cons_succ])
    refine wpAnyH_ready (rs := [14]) (by kernel_rfl) (by simp) ?_
    refine AllReadyH.cons rfl (fun K hK => ?_) AllReadyH.nil
    go_simp
    refine hK.out _ _ trivial (fun hHeld => ?_)
    clear hK K
    (try simp only [Act.put, List.getElem_toArray, List.getElem_cons_succ, List.getElem_cons_zero, List.setIfInBounds_toArray, List.set_cons_zero, List.set_cons_succ])
    (refine wpAnyH_take (i := 17) (v := ?_) rfl (by kernel_rfl) (by kernel_rfl) (by kernel_rfl) (fun _ _ _ h => h) (Or.inl ⟨by kernel_rfl, ?_⟩) (by assumption) ?_; rotate_left; (simp only [List.getElem_toArray, List.getElem_cons_succ, List.getElem_cons_zero]); (intro w hSw; go_simp); (try with_reducible rfl); (try simp only [Act.put, List.getElem_toArray, List.getElem_cons_succ, List.getElem_cons_zero, List.setIfInBounds_toArray, List.set_cons_zero, List.set_cons_succ]))
    (refine wpAnyH_take (i := 18) (v := ?_) rfl (by kernel_rfl) (by kernel_rfl) (by kernel_rfl) (fun _ _ _ h => h) (Or.inl ⟨by kernel_rfl, ?_⟩) (by assumption) ?_; rotate_left; (simp only [List.getElem_toArray, List.getElem_cons_succ, List.getElem_cons_zero]); (intro w hSw; go_simp); (try with_reducible rfl); (try simp only [Act.put, List.getElem_toArray, List.getElem_cons_succ, List.getElem_cons_zero, List.setIfInBounds_toArray, List.set_cons_zero, List.set_cons_succ]))
    refine wpAnyH_done (by kernel_rfl) ?_ _
    all_goals
      have HB12 := Lib.hid ((HQ12.out.block _ (blk_lt HB10.out) (fun h => h)).trans HB10.out)
      obtain ⟨z0, z1, z2, zf⟩ := block3 HB12.out
      have hN12 := blk_lt HB12.out
      clear hcv
      go_wp2_with fail
      refine (archOpenNil per keep A cp name Tr _ (Hv.out.pu HP12.out) (by omega)).mono ?_
      rintro e w13 ⟨v13, rfl, he13, hp13⟩
      have HO13 := Lib.hid (show ErrOr w13 v13 1 from .inr ⟨by decide, [], by decide, he13⟩)
      have HP13 := Lib.hid (HP12.out.pu hp13)
      have HQ13 := Lib.hid (HQ12.out.pu hp13)
      clear he13 hp13 z0 z1 z2 zf hN12 HB12
      go_wp2_with fail
      refine wp_region_held_drew (S := fun _ => True) (by kernel_rfl) trivial (fun hHeld => ?_)
      (refine wpAnyH_take (i := 0) (v := ?_) rfl (by kernel_rfl) (by kernel_rfl) (by kernel_rfl) (fun _ _ _ h => h) (Or.inl ⟨by kernel_rfl, ?_⟩) (by assumption) ?_; rotate_left; (simp only [List.getElem_toArray, List.getElem_cons_succ, List.getElem_cons_zero]); (intro w hSw; go_simp); (try with_reducible rfl); (try simp only [Act.put, List.getElem_toArray, List.getElem_cons_succ, List.getElem_cons_zero, List.setIfInBounds_toArray, List.set_cons_zero, List.set_cons_succ]))
      (refine wpAnyH_take (i := 1) (v := ?_) rfl (by kernel_rfl) (by kernel_rfl) (by kernel_rfl) (fun _ _ _ h => h) (Or.inl ⟨by kernel_rfl, ?_⟩) (by assumption) ?_; rotate_left; (simp only [List.getElem_toArray, List.getElem_cons_succ, List.getElem_cons_zero]); (intro w hSw; go_simp); (try with_reducible rfl); (try simp only [Act.put, List.getElem_toArray, List.getElem_cons_succ, List.getElem_cons_zero, List.setIfInBounds_toArray, List.set_cons_zero, List.set_cons_succ]))
      (refine wpAnyH_take (i := 2) (v := ?_) rfl (by kernel_rfl) (by kernel_rfl) (by kernel_rfl) (fun _ _ _ h => h) (Or.inl ⟨by kernel_rfl, ?_⟩) (by assumption) ?_; rotate_left; (simp only [List.getElem_toArray, List.getElem_cons_succ, List.getElem_cons_zero]); (intro w hSw; go_simp); (try with_reducible rfl); (try simp only [Act.put, List.getElem_toArray, List.getElem_cons_succ, List.getElem_cons_zero, List.setIfInBounds_toArray, List.set_cons_zero, List.set_cons_succ]))
      (refine wpAnyH_take (i := 3) (v := ?_) rfl (by kernel_rfl) (by kernel_rfl) (by kernel_rfl) (fun _ _ _ h => h) (Or.inl ⟨by kernel_rfl, ?_⟩) (by assumption) ?_; rotate_left; (simp only [List.getElem_toArray, List.getElem_cons_succ, List.getElem_cons_zero]); (intro w hSw; go_simp); (try with_reducible rfl); (try simp only [Act.put, List.getElem_toArray, List.getElem_cons_succ, List.getElem_cons_zero, List.setIfInBounds_toArray, List.set_cons_zero, List.set_cons_succ]))
      refine wpAnyH_ready (rs := [4]) (by kernel_rfl) (by simp) ?_
      refine AllReadyH.cons rfl (fun K hK => ?_) AllReadyH.nil
      go_simp
      have Cx := lawCodeLit (HO13.out.pu ((Fr.refl No w13).drew)) (HE.out.pu (HP13.out.pu ((Fr.refl No w13).drew)))
      refine Cx.mono ?_
      clear Cx
      rintro e w14 ⟨rfl, hp14⟩
      have HP14 := Lib.hid (HP13.out.pu (((Fr.refl No w13).drew).pu hp14))
      clear hp14
      refine hK.out _ _ trivial (fun hHeld => ?_)
      clear hK K
      (try simp only [Act.put, List.getElem_toArray, List.getElem_cons_succ, List.getElem_cons_zero, List.setIfInBounds_toArray, List.set_cons_zero, List.set_cons_succ])
      (refine wpAnyH_take (i := 5) (v := ?_) rfl (by kernel_rfl) (by kernel_rfl) (by kernel_rfl) (fun _ _ _ h => h) (Or.inl ⟨by kernel_rfl, ?_⟩) (by assumption) ?_; rotate_left; (simp only [List.getElem_toArray, List.getElem_cons_succ, List.getElem_cons_zero]); (intro w hSw; go_simp); (try with_reducible rfl); (try simp only [Act.put, List.getElem_toArray, List.getElem_cons_succ, List.getElem_cons_zero, List.setIfInBounds_toArray, List.set_cons_zero, List.set_cons_succ]))
      (refine wpAnyH_take (i := 6) (v := ?_) rfl (by kernel_rfl) (by kernel_rfl) (by kernel_rfl) (fun _ _ _ h => h) (Or.inl ⟨by kernel_rfl, ?_⟩) (by assumption) ?_; rotate_left; (simp only [List.getElem_toArray, List.getElem_cons_succ, List.getElem_cons_zero]); (intro w hSw; go_simp); (try with_reducible rfl); (try simp only [Act.put, List.getElem_toArray, List.getElem_cons_succ, List.getElem_cons_zero, List.setIfInBounds_toArray, List.set_cons_zero, List.set_cons_succ]))
      (refine wpAnyH_take (i := 7) (v := ?_) rfl (by kernel_rfl) (by kernel_rfl) (by kernel_rfl) (fun _ _ _ h => h) (Or.inl ⟨by kernel_rfl, ?_⟩) (by assumption) ?_; rotate_left; (simp only [List.getElem_toArray, List.getElem_cons_succ, List.getElem_cons_zero]); (intro w hSw; go_simp); (try with_reducible rfl); (try simp only [Act.put, List.getElem_toArray, List.getElem_cons_succ, List.getElem_cons_zero, List.setIfInBounds_toArray, List.set_cons_zero, List.set_cons_succ]))
      (refine wpAnyH_take (i := 8) (v := ?_) rfl (by kernel_rfl) (by kernel_rfl) (by kernel_rfl) (fun _ _ _ h => h) (Or.inl ⟨by kernel_rfl, ?_⟩) (by assumption) ?_; rotate_left; (simp only [List.getElem_toArray, List.getElem_cons_succ, List.getElem_cons_zero]); (intro w hSw; go_simp); (try with_reducible rfl); (try simp only [Act.put, List.getElem_toArray, List.getElem_cons_succ, List.getElem_cons_zero, List.setIfInBounds_toArray, List.set_cons_zero, List.set_cons_succ]))
      (refine wpAnyH_take (i := 9) (v := ?_) rfl (by kernel_rfl) (by kernel_rfl) (by kernel_rfl) (fun _ _ _ h => h) (Or.inl ⟨by kernel_rfl, ?_⟩) (by assumption) ?_; rotate_left; (simp only [List.getElem_toArray, List.getElem_cons_succ, List.getElem_cons_zero]); (intro w hSw; go_simp); (try with_reducible rfl); (try simp only [Act.put, List.getElem_toArray, List.getElem_cons_succ, List.getElem_cons_zero, List.setIfInBounds_toArray, List.set_cons_zero, List.set_cons_succ]))
      (refine wpAnyH_take (i := 10) (v := ?_) rfl (by kernel_rfl) (by kernel_rfl) (by kernel_rfl) (fun _ _ _ h => h) (Or.inl ⟨by kernel_rfl, ?_⟩) (by assumption) ?_; rotate_left; (simp only [List.getElem_toArray, List.getElem_cons_succ, List.getElem_cons_zero]); (intro w hSw; go_simp); (try with_reducible rfl); (try simp only [Act.put, List.getElem_toArray, List.getElem_cons_succ, List.getElem_cons_zero, List.setIfInBounds_toArray, List.set_cons_zero, List.set_cons_succ]))
      (refine wpAnyH_take (i := 11) (v := undef) rfl (by kernel_rfl) (by kernel_rfl) (by kernel_rfl) (fun _ _ _ h => h) (Or.inr ⟨by kernel_rfl, rfl⟩) (by assumption) ?_; (try simp only [Act.put, List.getElem_toArray, List.getElem_cons_succ, List.getElem_cons_zero, List.setIfInBounds_toArray, List.set_cons_zero, List.set_cons_succ]))
      (refine wpAnyH_take (i := 12) (v := undef) rfl (by kernel_rfl) (by kernel_rfl) (by kernel_rfl) (fun _ _ _ h => h) (Or.inr ⟨by kernel_rfl, rfl⟩) (by assumption) ?_; (try simp only [Act.put, List.getElem_toArray, List.getElem_cons_succ, List.getElem_cons_zero, List.setIfInBounds_toArray, List.set_cons_zero, List.set_cons_succ]))
      (refine wpAnyH_take (i := 13) (v := undef) rfl (by kernel_rfl) (by kernel_rfl) (by kernel_rfl) (fun _ _ _ h => h) (Or.inr ⟨by kernel_rfl, rfl⟩) (by assumption) ?_; (try simp only [Act.put, List.getElem_toArray, List.getElem_cons_succ, List.getElem_cons_zero, List.setIfInBounds_toArray, List.set_cons_zero, List.set_cons_succ]))
      (refine wpAnyH_take (i := 14) (v := undef) rfl (by kernel_rfl) (by kernel_rfl) (by kernel_rfl) (fun _ _ _ h => h) (Or.inr ⟨by kernel_rfl, rfl⟩) (by assumption) ?_; (try simp only [Act.put, List.getElem_toArray, List.getElem_cons_succ, List.getElem_cons_zero, List.setIfInBounds_toArray, List.set_cons_zero, List.set_cons_succ]))
      (refine wpAnyH_take (i := 15) (v := undef) rfl (by kernel_rfl) (by kernel_rfl) (by kernel_rfl) (fun _ _ _ h => h) (Or.inr ⟨by kernel_rfl, rfl⟩) (by assumption) ?_; (try simp only [Act.put, List.getElem_toArray, List.getElem_cons_succ, List.getElem_cons_zero, List.setIfInBounds_toArray, List.set_cons_zero, List.set_cons_succ]))
      (refine wpAnyH_take (i := 16) (v := undef) rfl (by kernel_rfl) (by kernel_rfl) (by kernel_rfl) (fun _ _ _ h => h) (Or.inr ⟨by kernel_rfl, rfl⟩) (by assumption) ?_; (try simp only [Act.put, List.getElem_toArray, List.getElem_cons_succ, List.getElem_cons_zero, List.setIfInBounds_toArray, List.set_cons_zero, List.set_cons_succ]))
      (refine wpAnyH_take (i := 17) (v := undef) rfl (by kernel_rfl) (by kernel_rfl) (by kernel_rfl) (fun _ _ _ h => h) (Or.inr ⟨by kernel_rfl, rfl⟩) (by assumption) ?_; (try simp only [Act.put, List.getElem_toArray, List.getElem_cons_succ, List.getElem_cons_zero, List.setIfInBounds_toArray, List.set_cons_zero, List.set_cons_succ]))
      (refine wpAnyH_take (i := 18) (v := ?_) rfl (by kernel_rfl) (by kernel_rfl) (by kernel_rfl) (fun _ _ _ h => h) (Or.inl ⟨by kernel_rfl, ?_⟩) (by assumption) ?_; rotate_left; (simp only [List.getElem_toArray, List.getElem_cons_succ, List.getElem_cons_zero]); (intro w hSw; go_simp); (try with_reducible rfl); (try simp only [Act.put, List.getElem_toArray, List.getElem_cons_succ, List.getElem_cons_zero, List.setIfInBounds_toArray, List.set_cons_zero, List.set_cons_succ]))
      (refine wpAnyH_take (i := 19) (v := ?_) rfl (by kernel_rfl) (by kernel_rfl) (by kernel_rfl) (fun _ _ _ h => h) (Or.inl ⟨by kernel_rfl, ?_⟩) (by assumption) ?_; rotate_left; (simp only [List.getElem_toArray, List.getElem_cons_succ, List.getElem_cons_zero]); (intro w hSw; go_simp); (try with_reducible rfl); (try simp only [Act.put, List.getElem_toArray, List.getElem_cons_succ, List.getElem_cons_zero, List.setIfInBounds_toArray, List.set_cons_zero, List.set_cons_succ]))
      (refine wpAnyH_take (i := 20) (v := ?_) rfl (by kernel_rfl) (by kernel_rfl) (by kernel_rfl) (fun _ _ _ h => h) (Or.inl ⟨by kernel_rfl, ?_⟩) (by assumption) ?_; rotate_left; (simp only [List.getElem_toArray, List.getElem_cons_succ, List.getElem_cons_zero]); (intro w hSw; go_simp); (try with_reducible rfl); (try simp only [Act.put, List.getElem_toArray, List.getElem_cons_succ, List.getElem_cons_zero, List.setIfInBounds_toArray, List.set_cons_zero, List.set_cons_succ]))
      refine wpAnyH_done (by kernel_rfl) ?_ _
      go_wp2
      go_ret
      exact ⟨rfl, HP14.out⟩
set_option maxRecDepth 100000 in
set_option maxHeartbeats 40000000 in
theorem lawYes {w : World} {n k : Nat} {a b c per keep : Int} {A : Option Addr} {cp : Nat} {name : Bytes} {f1 : Int} {im1 im2 : Bytes} (hk : k = 1 + n) (hn : n ≤ 255) (hv : Bs Tr w (.slice A name.length cp) name) (hnl : name.length ≤ 60) (ha : a ≤ 1000) (hb : b ≤ 1000) (hc : c ≤ 1000) (hG : Globs w) (hE : ErrG w) (H : BothYes w k a b c per keep A cp name f1 im1 im2) :
    Calls Tryz.prog 3 #[.int .u8 n, .agg #[.int .i64 a, .int .i64 b, .int .i64 c], .agg #[.int .i64 per, .int .i64 keep, .slice A name.length cp]] w fun e w' => e = .returned (.bool true) ∧ Pu w w' := by
  obtain ⟨hil1, hil2, hil3⟩ := H.len
  have hil4 := H.len1
  have FA := Lib.hid H.fa
  have FB := Lib.hid H.fb
  have OC := Lib.hid H.oc
  have OD := Lib.hid H.od
  have CN1 := Lib.hid (fun W : World => diskNew k W (by omega) (by omega))
  have CN2 := Lib.hid (fun W : World => refNew k W (by omega))
  have hz1 : 1 ≤ (zeros (k * 128)).length / 128 := by rw [zeros_length]; omega
  have e1 : IntKind.i64.wrap (n : Int) = (n : Int) := IntWalk.i64_in _ (by omega)
  have e2 : (1 : Int) + (n : Int) = (k : Int) := by omega
  have e3 : IntKind.i64.wrap (k : Int) = (k : Int) := IntWalk.i64_in _ (by omega)
  have hHG := Lib.hid hG
  have HE := Lib.hid hE
  have Hv := Lib.hid hv
  have hc1 : decide ((60 : Int) < (name.length : Int)) = false := by simp; omega
  have hc2 : ¬ (60 : Int) < (name.length : Int) := by omega
  have ha2 : ¬ 1000 < a := by omega
  have hb2 : ¬ 1000 < b := by omega
  have hcc2 : ¬ 1000 < c := by omega
  generalize zeros (k * 128) = zn at *
  clear H hG hE hv hk
  go_enter Tryz.func3, Tryz.ntmps3
  go_wp2_with fail
  have hp0 : Pu w ((w.alloc (.cells #[.int .i64 a, .int .i64 b, .int .i64 c] 22)).alloc (.cells #[.int .i64 per, .int .i64 keep, .slice A name.length cp] 25)) := ((Fr.refl _ _).alloc _).alloc _
  have hs1 : (w.alloc (.cells #[.int .i64 a, .int .i64 b, .int .i64 c] 22)).heap.size = w.heap.size + 1 := by simp
  have hn0 := (heap_alloc_old (w.alloc (.cells #[.int .i64 a, .int .i64 b, .int .i64 c] 22)) (.cells #[.int .i64 per, .int .i64 keep, .slice A name.length cp] 25) _ (by rw [hs1]; exact Nat.lt_succ_self _)).trans (heap_alloc_new w (.cells #[.int .i64 a, .int .i64 b, .int .i64 c] 22))
  have hq0 := heap_alloc_new (w.alloc (.cells #[.int .i64 a, .int .i64 b, .int .i64 c] 22)) (.cells #[.int .i64 per, .int .i64 keep, .slice A name.length cp] 25)
  rw [hs1] at hq0
  generalize (w.alloc (.cells #[.int .i64 a, .int .i64 b, .int .i64 c] 22)).alloc (.cells #[.int .i64 per, .int .i64 keep, .slice A name.length cp] 25) = w0 at *
  have hN : w.heap.size + 1 < w0.heap.size := blk_lt hq0
  refine (lawAwake w0 (hHG.out.pu hp0) (HE.out.pu hp0)).mono ?_
  rintro e w1 ⟨rfl, hp1⟩
  have Hp1 := Lib.hid (hp0.pu hp1)
  have Hn1 := Lib.hid ((hp1.block _ (blk_lt hn0) (fun h => h)).trans hn0)
  have Hq1 := Lib.hid ((hp1.block _ (blk_lt hq0) (fun h => h)).trans hq0)
  have hN1 : w.heap.size + 1 < w1.heap.size := blk_lt Hq1.out
  clear hp0 hp1 hn0 hq0 hs1 hN
  obtain ⟨y0, y1, y2, yf⟩ := block3 Hn1.out
  obtain ⟨z0, z1, z2, zf⟩ := block3 Hq1.out
  go_wp2_with fail
  refine (CN1.out _).mono ?_
  rintro e w2 ⟨gd, rfl, hgd, hd2, hp2⟩
  have hgdw : w.heap.size ≤ gd := Nat.le_trans Hp1.out.size hgd
  have hgdn : w.heap.size ≠ gd := by omega
  have hgdq : w.heap.size + 1 ≠ gd := by omega
  have Hp2 := Lib.hid (Hp1.out.pu hp2)
  have Hn2 := Lib.hid ((hp2.block _ (blk_lt Hn1.out) (fun h => h)).trans Hn1.out)
  have Hq2 := Lib.hid ((hp2.block _ (blk_lt Hq1.out) (fun h => h)).trans Hq1.out)
  have Hd2 := Lib.hid hd2
  have hdl := hd2.at_.lt
  clear hp2 hd2 Hp1 Hn1 Hq1 y0 y1 y2 yf z0 z1 z2 zf
  go_wp2_with fail
  refine (CN2.out _).mono ?_
  rintro e w3 ⟨ge, rfl, hge, hr3, hp3⟩
  have hgew : w.heap.size ≤ ge := Nat.le_trans Hp2.out.size hge
  have hgen : w.heap.size ≠ ge := by omega
  have hgeq : w.heap.size + 1 ≠ ge := by omega
  have hne1 : gd ≠ ge := by omega
  have hne2 : ge ≠ gd := by omega
  have Hp3 := Lib.hid (Hp2.out.pu hp3)
  have Hn3 := Lib.hid ((hp3.block _ (blk_lt Hn2.out) (fun h => h)).trans Hn2.out)
  have Hq3 := Lib.hid ((hp3.block _ (blk_lt Hq2.out) (fun h => h)).trans Hq2.out)
  have Hd3 := Lib.hid (Hd2.out.pu hp3)
  have Hr3 := Lib.hid hr3
  have hN3 : w.heap.size + 1 < w3.heap.size := blk_lt Hq3.out
  clear hp3 hr3 Hp2 Hn2 Hq2 Hd2 hN1
  obtain ⟨y0, y1, y2, yf⟩ := block3 Hn3.out
  go_wp2_with fail
  have hL : C3 w.heap.size (.int .i64 a) (.int .i64 b) (.int .i64 c) w3 := ⟨y0, y1, y2⟩
  go_region_held3 (fun w' => w'.cell? ⟨w.heap.size, 0, none⟩ = some (.int .i64 a) ∧ w'.cell? ⟨w.heap.size, 1, none⟩ = some (.int .i64 b) ∧ w'.cell? ⟨w.heap.size, 2, none⟩ = some (.int .i64 c))
    (first | with_reducible exact hL | with_reducible exact hk | with_reducible exact C3.drew hL | with_reducible exact C3.drew (by assumption))
    (first
      | (go_at_call 8; (with_reducible refine (archFormatNil 1 1 2 _).mono ?_); rintro e w4 ⟨v4, rfl, he4, hp4⟩; have hk := C3.fr (b := w.heap.size) (x := .int .i64 a) (y := .int .i64 b) (z := .int .i64 c) hp4 (fun h => h) (by assumption); have HO4 := Lib.hid (show ErrOr w4 v4 1 from .inr ⟨by decide, [], by decide, he4⟩); have HP4 := Lib.hid (Hp3.out.pu (((Fr.refl No w3).drew).pu hp4)); have HQ4 := Lib.hid (((Fr.refl No w3).drew).pu hp4); clear he4 hp4)
      | (go_at_call 7; have Cx := lawCodeLit HO4.out (HE.out.pu HP4.out); (with_reducible refine Cx.mono ?_); clear Cx; rintro e w5 ⟨rfl, hp5⟩; have hk := C3.fr (b := w.heap.size) (x := .int .i64 a) (y := .int .i64 b) (z := .int .i64 c) hp5 (fun h => h) (by assumption); have HP5 := Lib.hid (HP4.out.pu hp5); have HD5 := Lib.hid (Hd3.out.pu (HQ4.out.pu hp5)); have HR5 := Lib.hid (Hr3.out.pu (HQ4.out.pu hp5)); have HQ5 := Lib.hid (HQ4.out.pu hp5); clear hp5)
      | (go_at_call 8; have Cx := FA.out _ gd HD5.out; (with_reducible refine Cx.mono ?_); clear Cx; rintro e w6 ⟨v6, rfl, he6, hd6, hf6⟩; have hk := C3.fr (b := w.heap.size) (x := .int .i64 a) (y := .int .i64 b) (z := .int .i64 c) hf6 hgdn (by assumption); have HO6 := Lib.hid he6; have HP6 := Lib.hid (fr_pu HP5.out hgdw hf6); have HD6 := Lib.hid hd6; have HR6 := Lib.hid (show RefAt w6 ge zn [] from by obtain ⟨_, hdb, hdn⟩ := HD5.out.noT; exact HR5.out.away hdb hdn hne2 hf6); have HB6 := Lib.hid ((hf6.block _ (blk_lt ((HQ5.out.block _ (blk_lt Hq3.out) (fun h => h)).trans Hq3.out)) hgdq).trans ((HQ5.out.block _ (blk_lt Hq3.out) (fun h => h)).trans Hq3.out)); clear he6 hd6 hf6)
      | (go_at_call 7; have Cx := lawCodeLit HO6.out (HE.out.pu HP6.out); (with_reducible refine Cx.mono ?_); clear Cx; rintro e w7 ⟨rfl, hp7⟩; have hk := C3.fr (b := w.heap.size) (x := .int .i64 a) (y := .int .i64 b) (z := .int .i64 c) hp7 (fun h => h) (by assumption); have HP7 := Lib.hid (HP6.out.pu hp7); have HD7 := Lib.hid (HD6.out.pu hp7); have HR7 := Lib.hid (HR6.out.pu hp7); have HB7 := Lib.hid ((hp7.block _ (blk_lt HB6.out) (fun h => h)).trans HB6.out); clear hp7)
      | (go_at_call 9; have Cx := FB.out _ ge HR7.out; (with_reducible refine Cx.mono ?_); clear Cx; rintro e w8 ⟨rfl, hr8, hf8⟩; have hk := C3.fr (b := w.heap.size) (x := .int .i64 a) (y := .int .i64 b) (z := .int .i64 c) hf8 hgen (by assumption); have HP8 := Lib.hid (fr_pu HP7.out hgew hf8); have HR8 := Lib.hid hr8; have HD8 := Lib.hid (show DiskNil w8 gd im1 (-1) from by obtain ⟨_, hrb, hrn⟩ := HR7.out.noU; exact HD7.out.away hrb hrn hne1 hf8); have HB8 := Lib.hid ((hf8.block _ (blk_lt HB7.out) hgeq).trans HB7.out); clear hr8 hf8))
  all_goals
    rename_i hHeld
    clear hHeld hL y0 y1 y2 yf
    try clear hk
  all_goals
    obtain ⟨z0, z1, z2, zf⟩ := block3 HB8.out
    have hN8 := blk_lt HB8.out
    go_wp2_with fail
    refine (OC.out _ gd (Hv.out.pu HP8.out) HD8.out).mono ?_
    rintro e w9 ⟨g, lg, kt, ld, dq, rfl, ha9, hgs9, hgg9, hd9, hf9⟩
    have HP9 := Lib.hid (fr_pu HP8.out hgdw hf9)
    have HD9 := Lib.hid hd9
    have HR9 := Lib.hid (show RefAt w9 ge im1 [] from by obtain ⟨_, hdb, hdn⟩ := HD8.out.noT; exact HR8.out.away hdb hdn hne2 hf9)
    have HB9 := Lib.hid ((hf9.block _ hN8 hgdq).trans HB8.out)
    have HA9 := Lib.hid ha9
    clear ha9
    clear hd9 hf9 z0 z1 z2 zf hN8 HP8 HD8 HR8 HB8
    obtain ⟨z0, z1, z2, zf⟩ := block3 HB9.out
    have hN9 := blk_lt HB9.out
    go_wp2_with fail
    refine (OD.out _ ge HR9.out).mono ?_
    rintro e w10 ⟨gm, rfl, hm10, hgms, hr10, hf10⟩
    have HA10 := Lib.hid (HA9.out.away HR9.out hil4 hf10)
    have HM10 := Lib.hid hm10
    clear hm10
    have HP10 := Lib.hid (fr_pu HP9.out hgew hf10)
    have HR10 := Lib.hid hr10
    have HD10 := Lib.hid (show DiskNil w10 gd im2 (-1) from by obtain ⟨_, hrb, hrn⟩ := HR9.out.noU; exact HD9.out.away hrb hrn hne1 hf10)
    have HB10 := Lib.hid ((hf10.block _ hN9 hgeq).trans HB9.out)
    clear hr10 hf10 z0 z1 z2 zf hN9 HP9 HD9 HR9 HB9
    go_wp2_with fail
    have hqn : QOk im2.length [] := fun x hx => by simp at hx
    have hee : ((str im2).toList == (str im2).toList) = true := beq_self_eq_true _
    refine wp_region_held_drew (S := fun _ => True) (by kernel_rfl) trivial (fun hHeld => ?_)
    (refine wpAnyH_take (i := 0) (v := ?_) rfl (by kernel_rfl) (by kernel_rfl) (by kernel_rfl) (fun _ _ _ h => h) (Or.inl ⟨by kernel_rfl, ?_⟩) (by assumption) ?_; rotate_left; (simp only [List.getElem_toArray, List.getElem_cons_succ, List.getElem_cons_zero]); (intro w hSw; go_simp); (try with_reducible rfl); (try simp only [Act.put, List.getElem_toArray, List.getElem_cons_succ, List.getElem_cons_zero, List.setIfInBounds_toArray, List.set_cons_zero, List.set_cons_succ]))
    (refine wpAnyH_take (i := 2) (v := ?_) rfl (by kernel_rfl) (by kernel_rfl) (by kernel_rfl) (fun _ _ _ h => h) (Or.inl ⟨by kernel_rfl, ?_⟩) (by assumption) ?_; rotate_left; (simp only [List.getElem_toArray, List.getElem_cons_succ, List.getElem_cons_zero]); (intro w hSw; go_simp); (try with_reducible rfl); (try simp only [Act.put, List.getElem_toArray, List.getElem_cons_succ, List.getElem_cons_zero, List.setIfInBounds_toArray, List.set_cons_zero, List.set_cons_succ]))
    refine wpAnyH_ready (rs := [1]) (by kernel_rfl) (by simp) ?_
    refine AllReadyH.cons rfl (fun K hK => ?_) AllReadyH.nil
    go_simp
    have Cx := lawCodeLit (ErrOr.pu (show ErrOr w10 .nilIface 0 from .inl ⟨rfl, rfl⟩) ((Fr.refl No w10).drew)) (HE.out.pu (HP10.out.pu ((Fr.refl No w10).drew)))
    refine Cx.mono ?_
    clear Cx
    rintro e w11 ⟨rfl, hp11⟩
    have HQ11 := Lib.hid (((Fr.refl No w10).drew).pu hp11)
    have HP11 := Lib.hid (HP10.out.pu HQ11.out)
    clear hp11
    refine hK.out _ _ trivial (fun hHeld => ?_)
    clear hK K
    (try simp only [Act.put, List.getElem_toArray, List.getElem_cons_succ, List.getElem_cons_zero, List.setIfInBounds_toArray, List.set_cons_zero, List.set_cons_succ])
    (refine wpAnyH_take (i := 3) (v := ?_) rfl (by kernel_rfl) (by kernel_rfl) (by kernel_rfl) (fun _ _ _ h => h) (Or.inl ⟨by kernel_rfl, ?_⟩) (by assumption) ?_; rotate_left; (simp only [List.getElem_toArray, List.getElem_cons_succ, List.getElem_cons_zero]); (intro w hSw; go_simp); (try with_reducible rfl); (try simp only [Act.put, List.getElem_toArray, List.getElem_cons_succ, List.getElem_cons_zero, List.setIfInBounds_toArray, List.set_cons_zero, List.set_cons_succ]))
    (refine wpAnyH_take (i := 4) (v := ?_) rfl (by kernel_rfl) (by kernel_rfl) (by kernel_rfl) (fun _ _ _ h => h) (Or.inl ⟨by kernel_rfl, ?_⟩) (by assumption) ?_; rotate_left; (simp only [List.getElem_toArray, List.getElem_cons_succ, List.getElem_cons_zero]); (intro w hSw; go_simp); (try with_reducible rfl); (try simp only [Act.put, List.getElem_toArray, List.getElem_cons_succ, List.getElem_cons_zero, List.setIfInBounds_toArray, List.set_cons_zero, List.set_cons_succ]))
    (refine wpAnyH_take (i := 5) (v := ?_) rfl (by kernel_rfl) (by kernel_rfl) (by kernel_rfl) (fun _ _ _ h => h) (Or.inl ⟨by kernel_rfl, ?_⟩) (by assumption) ?_; rotate_left; (simp only [List.getElem_toArray, List.getElem_cons_succ, List.getElem_cons_zero]); (intro w hSw; go_simp); (try with_reducible rfl); (try simp only [Act.put, List.getElem_toArray, List.getElem_cons_succ, List.getElem_cons_zero, List.setIfInBounds_toArray, List.set_cons_zero, List.set_cons_succ]))
    (refine wpAnyH_take (i := 6) (v := ?_) rfl (by kernel_rfl) (by kernel_rfl) (by kernel_rfl) (fun _ _ _ h => h) (Or.inl ⟨by kernel_rfl, ?_⟩) (by assumption) ?_; rotate_left; (simp only [List.getElem_toArray, List.getElem_cons_succ, List.getElem_cons_zero]); (intro w hSw; go_simp); (try with_reducible rfl); (try simp only [Act.put, List.getElem_toArray, List.getElem_cons_succ, List.getElem_cons_zero, List.setIfInBounds_toArray, List.set_cons_zero, List.set_cons_succ]))
    (refine wpAnyH_take (i := 7) (v := ?_) rfl (by kernel_rfl) (by kernel_rfl) (by kernel_rfl) (fun _ _ _ h => h) (Or.inl ⟨by kernel_rfl, ?_⟩) (by assumption) ?_; rotate_left; (simp only [List.getElem_toArray, List.getElem_cons_succ, List.getElem_cons_zero]); (intro w hSw; go_simp); (try with_reducible rfl); (try simp only [Act.put, List.getElem_toArray, List.getElem_cons_succ, List.getElem_cons_zero, List.setIfInBounds_toArray, List.set_cons_zero, List.set_cons_succ]))
    (refine wpAnyH_take (i := 8) (v := ?_) rfl (by kernel_rfl) (by kernel_rfl) (by kernel_rfl) (fun _ _ _ h => h) (Or.inl ⟨by kernel_rfl, ?_⟩) (by assumption) ?_; rotate_left; (simp only [List.getElem_toArray, List.getElem_cons_succ, List.getElem_cons_zero]); (intro w hSw; go_simp); (try with_reducible rfl); (try simp only [Act.put, List.getElem_toArray, List.getElem_cons_succ, List.getElem_cons_zero, List.setIfInBounds_toArray, List.set_cons_zero, List.set_cons_succ]))
    (refine wpAnyH_take (i := 9) (v := ?_) rfl (by kernel_rfl) (by kernel_rfl) (by kernel_rfl) (fun _ _ _ h => h) (Or.inl ⟨by kernel_rfl, ?_⟩) (by assumption) ?_; rotate_left; (simp only [List.getElem_toArray, List.getElem_cons_succ, List.getElem_cons_zero]); (intro w hSw; go_simp); (try with_reducible rfl); (try simp only [Act.put, List.getElem_toArray, List.getElem_cons_succ, List.getElem_cons_zero, List.setIfInBounds_toArray, List.set_cons_zero, List.set_cons_succ]))
    (refine wpAnyH_take (i := 10) (v := ?_) rfl (by kernel_rfl) (by kernel_rfl) (by kernel_rfl) (fun _ _ _ h => h) (Or.inl ⟨by kernel_rfl, ?_⟩) (by assumption) ?_; rotate_left; (simp only [List.getElem_toArray, List.getElem_cons_succ, List.getElem_cons_zero]); (intro w hSw; go_simp); (try with_reducible rfl); (try simp only [Act.put, List.getElem_toArray, List.getElem_cons_succ, List.getElem_cons_zero, List.setIfInBounds_toArray, List.set_cons_zero, List.set_cons_succ]))
    (refine wpAnyH_take (i := 11) (v := ?_) rfl (by kernel_rfl) (by kernel_rfl) (by kernel_rfl) (fun _ _ _ h => h) (Or.inl ⟨by kernel_rfl, ?_⟩) (by assumption) ?_; rotate_left; (simp only [List.getElem_toArray, List.getElem_cons_succ, List.getElem_cons_zero]); (intro w hSw; go_simp); (try with_reducible rfl); (try simp only [Act.put, List.getElem_toArray, List.getElem_cons_succ, List.getElem_cons_zero, List.setIfInBounds_toArray, List.set_cons_zero, List.set_cons_succ]))
    (refine wpAnyH_take (i := 12) (v := ?_) rfl (by kernel_rfl) (by kernel_rfl) (by kernel_rfl) (fun _ _ _ h => h) (Or.inl ⟨by kernel_rfl, ?_⟩) (by assumption) ?_; rotate_left; (simp only [List.getElem_toArray, List.getElem_cons_succ, List.getElem_cons_zero]); (intro w hSw; go_simp); (try with_reducible rfl); (try simp only [Act.put, List.getElem_toArray, List.getElem_cons_succ, List.getElem_cons_zero, List.setIfInBounds_toArray, List.set_cons_zero, List.set_cons_succ]))
    (refine wpAnyH_take (i := 15) (v := ?_) rfl (by kernel_rfl) (by kernel_rfl) (by kernel_rfl) (fun _ _ _ h => h) (Or.inl ⟨by kernel_rfl, ?_⟩) (by assumption) ?_; rotate_left; (simp only [List.getElem_toArray, List.getElem_cons_succ, List.getElem_cons_zero]); (intro w hSw; go_simp); (try with_reducible rfl); (try simp only [Act.put, List.getElem_toArray, List.getElem_cons_succ, List.getElem_cons_zero, List.setIfInBounds_toArray, List.set_cons_zero, List.set_cons_succ]))
    refine wpAnyH_ready (rs := [13]) (by kernel_rfl) (by simp) ?_
    refine AllReadyH.cons rfl (fun K hK => ?_) AllReadyH.nil
    go_simp
    have Cx := diskImage gd im2 [] (-1) w11 (HD10.out.pu HQ11.out).at_ hqn hil3
    refine Cx.mono ?_
    clear Cx
    rintro e w12 ⟨v12, rfl, ho12, hp12⟩
    obtain ⟨A12, c12, rfl⟩ := own_shape ho12
    have hcv := run_str (P := Tryz.prog) (Bs.own (show w12.ownsRow w11.heap.size 5 1 (.slice A12 im2.length c12) im2.length (u8s im2) from ho12)) Tryz.underlying23 Tryz.underlying5 Tryz.underlying9
    have HQ12 := Lib.hid (HQ11.out.pu hp12)
    have HP12 := Lib.hid (HP11.out.pu hp12)
    clear ho12 hp12
    refine hK.out _ _ trivial (fun hHeld => ?_)
    clear hK K
    (try simp only [Act.put, List.getElem_toArray, List.getElem_cons_succ, List.getElem_cons_zero, List.setIfInBounds_toArray, List.set_cons_zero, List.set_cons_succ])
    refine wpAnyH_ready (rs := [14, 16]) (by kernel_rfl) (by simp) ?_
    refine AllReadyH.cons rfl (fun K hK => ?_) (AllReadyH.cons rfl (fun K hK => ?_) AllReadyH.nil)
    go_simp
    refine hK.out _ _ trivial (fun hHeld => ?_)
    clear hK K
    (try simp only [Act.put, List.getElem_toArray, List.getElem_cons_succ, List.getElem_cons_zero, List.setIfInBounds_toArray, List.set_cons_zero, List.set_cons_succ])
    refine wpAnyH_ready (rs := [16]) (by kernel_rfl) (by simp) ?_
    refine AllReadyH.cons rfl (fun K hK => ?_) AllReadyH.nil
    go_simp
    have Cx : Calls Tryz.prog 13 #[.pointer (some ⟨ge, 0, none⟩)] w12 _ := refImage (HR10.out.pu HQ12.out) hqn hil3 hil1
    refine Cx.mono ?_
    clear Cx
    rintro e w' ⟨rfl, rfl⟩
    unfold tv
    rw [show lay im2 [] = im2 from rfl]
    refine hK.out _ _ trivial (fun hHeld => ?_)
    clear hK K
    (try simp only [Act.put, List.getElem_toArray, List.getElem_cons_succ, List.getElem_cons_zero, List.setIfInBounds_toArray, List.set_cons_zero, List.set_cons_succ])
    (refine wpAnyH_take (i := 17) (v := ?_) rfl (by kernel_rfl) (by kernel_rfl) (by kernel_rfl) (fun _ _ _ h => h) (Or.inl ⟨by kernel_rfl, ?_⟩) (by assumption) ?_; rotate_left; (simp only [List.getElem_toArray, List.getElem_cons_succ, List.getElem_cons_zero]); (intro w hSw; go_simp); (try with_reducible rfl); (try simp only [Act.put, List.getElem_toArray, List.getElem_cons_succ, List.getElem_cons_zero, List.setIfInBounds_toArray, List.set_cons_zero, List.set_cons_succ]))
    (refine wpAnyH_take (i := 18) (v := ?_) rfl (by kernel_rfl) (by kernel_rfl) (by kernel_rfl) (fun _ _ _ h => h) (Or.inl ⟨by kernel_rfl, ?_⟩) (by assumption) ?_; rotate_left; (simp only [List.getElem_toArray, List.getElem_cons_succ, List.getElem_cons_zero]); (intro w hSw; go_simp); (try with_reducible rfl); (try simp only [Act.put, List.getElem_toArray, List.getElem_cons_succ, List.getElem_cons_zero, List.setIfInBounds_toArray, List.set_cons_zero, List.set_cons_succ]))
    refine wpAnyH_done (by kernel_rfl) ?_ _
    rotate_left
    go_simp
    have Cx : Calls Tryz.prog 13 #[.pointer (some ⟨ge, 0, none⟩)] w12 _ := refImage (HR10.out.pu HQ12.out) hqn hil3 hil1
    refine Cx.mono ?_
    clear Cx
    rintro e w' ⟨rfl, rfl⟩
    unfold tv
    rw [show lay im2 [] = im2 from rfl]
    refine hK.out _ _ trivial (fun hHeld => ?_)
    clear hK K
    (try simp only [Act.put, List.getElem_toArray, List.getElem_cons_succ, List.getElem_cons_zero, List.setIfInBounds_toArray, List.set_cons_zero, List.set_cons_succ])
    refine wpAnyH_ready (rs := [14]) (by kernel_rfl) (by simp) ?_
    refine AllReadyH.cons rfl (fun K hK => ?_) AllReadyH.nil
    go_simp
    refine hK.out _ _ trivial (fun hHeld => ?_)
    clear hK K
    (try simp only [Act.put, List.getElem_toArray, List.getElem_cons_succ, List.getElem_cons_zero, List.setIfInBounds_toArray, List.set_cons_zero, List.set_cons_succ])
    (refine wpAnyH_take (i := 17) (v := ?_) rfl (by kernel_rfl) (by kernel_rfl) (by kernel_rfl) (fun _ _ _ h => h) (Or.inl ⟨by kernel_rfl, ?_⟩) (by assumption) ?_; rotate_left; (simp only [List.getElem_toArray, List.getElem_cons_succ, List.getElem_cons_zero]); (intro w hSw; go_simp); (try with_reducible rfl); (try simp only [Act.put, List.getElem_toArray, List.getElem_cons_succ, List.getElem_cons_zero, List.setIfInBounds_toArray, List.set_cons_zero, List.set_cons_succ]))
    (refine wpAnyH_take (i := 18) (v := ?_) rfl (by kernel_rfl) (by kernel_rfl) (by kernel_rfl) (fun _ _ _ h => h) (Or.inl ⟨by kernel_rfl, ?_⟩) (by assumption) ?_; rotate_left; (simp only [List.getElem_toArray, List.getElem_cons_succ, List.getElem_cons_zero]); (intro w hSw; go_simp); (try with_reducible rfl); (try simp only [Act.put, List.getElem_toArray, List.getElem_cons_succ, List.getElem_cons_zero, List.setIfInBounds_toArray, List.set_cons_zero, List.set_cons_succ]))
    refine wpAnyH_done (by kernel_rfl) ?_ _
    all_goals
      have HB12 := Lib.hid ((HQ12.out.block _ (blk_lt HB10.out) (fun h => h)).trans HB10.out)
      obtain ⟨z0, z1, z2, zf⟩ := block3 HB12.out
      have hN12 := blk_lt HB12.out
      clear hcv
      go_wp2_with fail
      refine (archOpenNil per keep A cp name Tr _ (Hv.out.pu HP12.out) (by omega)).mono ?_
      rintro e w13 ⟨v13, rfl, he13, hp13⟩
      have HO13 := Lib.hid (show ErrOr w13 v13 1 from .inr ⟨by decide, [], by decide, he13⟩)
      have HP13 := Lib.hid (HP12.out.pu hp13)
      have HQ13 := Lib.hid (HQ12.out.pu hp13)
      clear he13 hp13 z0 z1 z2 zf hN12 HB12
      obtain ⟨A14, c14, mp14, hat14⟩ := (HA10.out.pu HQ13.out).t
      have HT14 := Lib.hid hat14
      have hm13 : w13.cell? ⟨gm, 6, none⟩ = some (.int .i64 0) := (HQ13.out.pcell gm 6 (World.block_lt_of_cell? w10 _ HM10.out)).trans HM10.out
      clear hat14
      go_wp2_with fail
      go_region_held3 (fun w' => w'.cell? ⟨gm, 6, none⟩ = some (.int .i64 0))
        (first | with_reducible exact hm13 | with_reducible exact hk14 | exact hm13 | with_reducible assumption)
        (first
          | (go_at_call 7; have Cx := lawCodeLit (HO13.out.pu ((Fr.refl No w13).drew)) (HE.out.pu (HP13.out.pu ((Fr.refl No w13).drew))); (with_reducible refine Cx.mono ?_); clear Cx; rintro e w14 ⟨rfl, hp14⟩; have hk14 : w14.cell? ⟨gm, 6, none⟩ = some (.int .i64 0) := (((((Fr.refl No w13).drew).pu hp14).pcell gm 6 (World.block_lt_of_cell? w13 _ hm13)).trans hm13); have HP14 := Lib.hid (HP13.out.pu (((Fr.refl No w13).drew).pu hp14)); have HT15 := Lib.hid (HT14.out.fr (((Fr.refl No w13).drew).pu hp14) (fun h => h)); clear hp14)
          | (go_at_call 14; have Cx := archNow HT15.out; (with_reducible refine Cx.mono ?_); clear Cx; rintro e w' ⟨rfl, rfl⟩))
      all_goals
        go_wp2
        go_ret
        exact ⟨rfl, HP14.out⟩
end Go.Proofs.YtaendhbiehknlaaGreatDoor
