/- What is proved here, of the given program: The statement's own: policy, numbers, Opened. The statement's own: Opened. -/
import Derived.Test.YtaendhbiehknlaaGreatDoorU43
import Derived.Test.YtaendhbiehknlaaGreatDoorU45
import Derived.Test.YtaendhbiehknlaaGreatDoorU46
set_option linter.unusedVariables false
set_option linter.unusedSimpArgs false
set_option linter.constructorNameAsVariable false
namespace Go.Proofs.YtaendhbiehknlaaGreatDoor
open Go.RowKit Go.Shelf Go.Proofs

def arcT : Bytes := [97, 114, 99]
def sizeV : Value := .agg #[.int .u8 1, .int .u8 1, .int .u8 6, .int .u16 9, .int .u16 5]
set_option maxRecDepth 100000 in
theorem lawPolicy (w : World) : Calls Tryz.prog 57 #[.agg #[.int .u8 1, .int .u8 1, .int .u8 6, .int .u16 9, .int .u16 5]] w fun e w' => ∃ b, e = .returned (.agg #[.int .i64 10, .int .i64 5, .slice (some ⟨b, 0, none⟩) 3 3]) ∧ w.heap.size ≤ b ∧ Bs (fun k => k = b) w' (.slice (some ⟨b, 0, none⟩) 3 3) arcT ∧ Pu w w' := by
  have kc := fun (o1 o2 : Obj) (C : Array Value) (n c : Nat) => Lib.run_convert_bytes_const (P := Tryz.prog) ((w.alloc o1).alloc o2) 23 5 C n c Tryz.underlying23 Tryz.underlying5
  have hs2 : ∀ o1 o2 : Obj, ((w.alloc o1).alloc o2).heap.size = w.heap.size + 1 + 1 := fun o1 o2 => by simp
  simp only [hs2] at kc
  clear hs2
  go_enter Tryz.func57, Tryz.ntmps57
  go_wp2
  have hp1 : Pu w (w.alloc (.cells #[.int .u8 1, .int .u8 1, .int .u8 6, .int .u16 9, .int .u16 5] 60)) := (Fr.refl _ _).alloc _
  have hs1 : (w.alloc (.cells #[.int .u8 1, .int .u8 1, .int .u8 6, .int .u16 9, .int .u16 5] 60)).heap.size = w.heap.size + 1 := by simp
  generalize w.alloc (.cells #[.int .u8 1, .int .u8 1, .int .u8 6, .int .u16 9, .int .u16 5] 60) = w1 at *
  rw [← hs1]
  have hb := heap_alloc_new w1 (.cells #[.int .i64 10, .int .i64 5, .slice (some ⟨w1.heap.size + 1, 0, none⟩) 3 3] 25)
  have hp2 : Pu w1 (w1.alloc (.cells #[.int .i64 10, .int .i64 5, .slice (some ⟨w1.heap.size + 1, 0, none⟩) 3 3] 25)) := (Fr.refl _ _).alloc _
  have hs2 : (w1.alloc (.cells #[.int .i64 10, .int .i64 5, .slice (some ⟨w1.heap.size + 1, 0, none⟩) 3 3] 25)).heap.size = w1.heap.size + 1 := by simp
  generalize hg2 : w1.alloc (.cells #[.int .i64 10, .int .i64 5, .slice (some ⟨w1.heap.size + 1, 0, none⟩) 3 3] 25) = w2 at *
  rw [← hs2] at hb ⊢
  have hbs : Bs (fun k => k = w2.heap.size) (w2.alloc (.cells #[.int .u8 97, .int .u8 114, .int .u8 99] 5 (3, 4))) (.slice (some ⟨w2.heap.size, 0, none⟩) 3 3) arcT := bs_row w2 _ _ _ arcT 3 (by decide) (by decide) (fun j u hu => by
    match j with
    | 0 => exact hu
    | 1 => exact hu
    | 2 => exact hu
    | j + 3 => simp [u8s, arcT] at hu)
  have hp3 : Pu w2 (w2.alloc (.cells #[.int .u8 97, .int .u8 114, .int .u8 99] 5 (3, 4))) := (Fr.refl _ _).alloc _
  have hb3 := (hp3.block _ (blk_lt hb) (fun h => h)).trans hb
  generalize w2.alloc (.cells #[.int .u8 97, .int .u8 114, .int .u8 99] 5 (3, 4)) = w3 at *
  obtain ⟨e0, e1, e2, ef⟩ := block3 hb3
  have hle : w.heap.size ≤ w2.heap.size := Nat.le_trans hp1.size hp2.size
  exact bodyPost_ret (v := .agg #[.int .i64 10, .int .i64 5, .slice (some ⟨w2.heap.size, 0, none⟩) 3 3]) (by simp [results, Tryz.results57, go_sem, e0, e1, e2]) rfl ⟨_, rfl, hle, hbs, (hp1.pu hp2).pu hp3⟩
set_option maxRecDepth 100000 in
theorem lawNumbers (w : World) : Calls Tryz.prog 56 #[.agg #[.int .u8 1, .int .u8 1, .int .u8 6, .int .u16 9, .int .u16 5]] w fun e w' => e = .returned (.tuple #[.int .i64 2, .int .i64 2, .int .i64 8]) ∧ Pu w w' := by
  go_enter Tryz.func56, Tryz.ntmps56
  go_wp2
  go_quiet (fail)
  go_wp2
  go_ret3
  exact ⟨rfl, ((Fr.refl _ _).alloc _).drewN _⟩
theorem DiskNil.noT {w : World} {g : Nat} {img : Bytes} {calls : Int} (h : DiskNil w g img calls) : ∃ cs, w.heap[g]? = some (.cells cs 73 (0, 0)) ∧ ∀ (i : Nat) (x : Bytes), cs[i]? ≠ some (tv x) := by
  obtain ⟨A, c, B, k, -, -, -, -, -, -, -, -, -, -, hb, -, -⟩ := h.at_.cells
  refine ⟨_, hb, fun i x => ?_⟩
  match i with
  | 0 => simp [tv]
  | 1 => simp [tv]
  | 2 => simp [tv]
  | i + 3 => simp
/-- A new archive stays so while the document's disk turns. -/
theorem ArchNew.away {w w1 : World} {g : Nat} {per keep : Int} {name : Bytes} {lg kt ld dq k : Nat} {img : Bytes} (h : ArchNew w g per keep name lg kt ld dq) (hr : RefAt w k img []) (hn : 1 ≤ img.length / 128) (hf : Fr (At k) w w1) : ArchNew w1 g per keep name lg kt ld dq := by
  obtain ⟨A, c, B, d, C, e, R⟩ := hr.cs
  have hb := R.blk
  obtain ⟨⟨A', c', mp, ha, hnm⟩, hl, hd, hq, hne⟩ := h
  have hgk : g ≠ k := by
    intro e
    unfold ArchAt at ha
    rw [e, hb] at ha
    injection ha with ha
    injection ha with _ ha
    exact absurd ha (by decide)
  have hlk : lg ≠ k := by
    intro e
    unfold LogNil at hl
    rw [e, cell_of_row _ _ _ _ _ _ hb] at hl
    simp at hl
  have hdk : ld ≠ k := by
    intro e
    unfold LedNil at hd
    rw [e, cell_of_row _ _ _ _ _ _ hb] at hd
    simp at hd
  have hqk : dq ≠ k := by
    intro e
    unfold DueNil at hq
    rw [e, cell_of_row _ _ _ _ _ _ hb] at hq
    simp at hq
    omega
  have hnm2 := Sl.sne (k := k) hnm (fun o x => by
    rw [cell_of_row w k o _ _ _ hb]
    match o with
    | 0 => simp [u8v]
    | 1 => simp [u8v]
    | 2 => simp [u8v]
    | 3 => simp [u8v]
    | o + 4 => simp)
  exact ⟨⟨A', c', mp, ha.fr hf hgk, (hnm2.fr hf (fun j _ hj e => hj.2 e)).mono (fun j _ hj => hj.1)⟩, hl.fr hf hlk, hd.fr hf hdk, hq.fr hf hqk, hne⟩
theorem RefAt.noU {w : World} {g : Nat} {img : Bytes} {q : List (Int × Bytes)} (h : RefAt w g img q) : ∃ cs, w.heap[g]? = some (.cells cs 77 (0, 0)) ∧ ∀ (i : Nat) (x : UInt8), cs[i]? ≠ some (u8v x) := by
  obtain ⟨A, c, B, d, C, e, R⟩ := h.cs
  refine ⟨_, R.blk, fun i x => ?_⟩
  match i with
  | 0 => simp [u8v]
  | 1 => simp [u8v]
  | 2 => simp [u8v]
  | 3 => simp [u8v]
  | i + 4 => simp
theorem ArchNew.pu {w w1 : World} {g : Nat} {per keep : Int} {name : Bytes} {lg kt ld dq : Nat} (h : ArchNew w g per keep name lg kt ld dq) (hp : Pu w w1) : ArchNew w1 g per keep name lg kt ld dq := by
  obtain ⟨⟨A', c', mp, ha, hnm⟩, hl, hd, hq, hne⟩ := h
  exact ⟨⟨A', c', mp, ha.fr hp (fun h => h), hnm.pu hp⟩, hl.pu hp, hd.pu hp, hq.pu hp, hne⟩
end Go.Proofs.YtaendhbiehknlaaGreatDoor

namespace Go.Proofs.YtaendhbiehknlaaGreatDoor
open Go.RowKit Go.Shelf Go.Proofs

/-- A disk that was formatted. -/
def imgF (n : Nat) (a b c : Int) : Bytes := patch (zeros n) 128 (Sup.mk 1 0 a b c).bytes
theorem imgF_length (n : Nat) (a b c : Int) (h : 256 ≤ n) : (imgF n a b c).length = n := by
  have h1 := (Sup.mk 1 0 a b c).bytes_length
  rw [imgF, patch_length _ _ _ (by rw [zeros_length]; omega), zeros_length]
theorem imgF_of (n m : Nat) (a b c : Int) (h : m * 128 ≤ n) : patch (patch (zeros n) 0 (zeros (m * 128))) 128 (Sup.mk 1 0 a b c).bytes = imgF n a b c := by rw [patch_zeros _ _ _ (by omega)]; rfl
theorem imgF_newest (n a b c : Nat) (h : 256 ≤ n) (hr : (Sup.mk 1 0 a b c).right = true) : newestSup ((imgF n a b c).take 256) = some ⟨1, 0, a, b, c⟩ := newest_formatted n ⟨1, 0, a, b, c⟩ hr rfl h
theorem imgF_zero (n a b c o k : Nat) (ho : 256 ≤ o) (h : o + k ≤ n) : ((patch (imgF n a b c) 0 (Sup.mk 2 1 a b c).bytes).drop o).take k = zeros k :=
  patch_two_drop n o k _ _ (Sup.bytes_length _) (Sup.bytes_length _) ho h
theorem right_up {a b c : Int} (h : (Sup.mk 1 0 a b c).right = true) : (Sup.mk 2 1 a b c).right = true := by
  obtain ⟨-, -, h3, h4, h5⟩ := (Sup.right_iff _).1 h
  exact (Sup.right_iff _).2 ⟨⟨by show (1 : Int) ≤ 2; decide, by show (2 : Int) ≤ 1099511627776; decide⟩, ⟨by show (0 : Int) ≤ 1; decide, by show (1 : Int) ≤ 1099511627776; decide⟩, h3, h4, h5⟩
theorem fr_pu {w w1 w2 : World} {g : Nat} (h : Pu w w1) (hg : w.heap.size ≤ g) (h2 : Fr (At g) w1 w2) : Pu w w2 := Fr.new h h2 hg
set_option maxRecDepth 100000 in
set_option maxHeartbeats 2000000 in
theorem lawOpened (w : World) : Calls Tryz.prog 15 #[.agg #[.int .u8 1, .int .u8 1, .int .u8 6, .int .u16 9, .int .u16 5]] w fun e w' => ∃ r g lg kt ld dq, e = .returned (.pointer (some ⟨r, 0, none⟩)) ∧ w'.cell? ⟨r, 1, none⟩ = some (.pointer (some ⟨g, 0, none⟩)) ∧ ArchNew w' g 10 5 arcT lg kt ld dq ∧ w.heap.size ≤ g ∧ r ≠ g ∧ Pu w w' := by
  have hr : (Sup.mk 1 0 ((2 : Nat) : Int) ((2 : Nat) : Int) ((8 : Nat) : Int)).right = true := by decide
  have CA := fun (W : World) (g : Nat) (hd : DiskNil W g (zeros (22 * 128)) (-1)) => archFormat g (zeros (22 * 128)) (-1) 2 2 8 22 W hd (by decide) (by rw [zeros_length]; omega) hr rfl (by omega) (by rw [zeros_length]; omega)
  have CB := fun (W : World) (g : Nat) (hd : RefAt W g (zeros (22 * 128)) []) => refFormat hd (by rw [zeros_length]; omega) 2 2 8 22 hr rfl (by omega) (by rw [zeros_length]; omega)
  rw [imgF_of (22 * 128) 22 2 2 8 (by omega)] at CA CB
  have hil : (imgF (22 * 128) 2 2 8).length = 2816 := imgF_length _ _ _ _ (by omega)
  have CC := fun (W : World) (gd : Nat) (A : Option Addr) (c : Nat) (S : Nat → Prop) (hv : Bs S W (.slice A arcT.length c) arcT) (hd : DiskNil W gd (imgF (22 * 128) 2 2 8) (-1)) => archOpenOk gd 10 5 A c arcT S W hv (by decide) (by decide) _ _ 2 2 8 hd (by omega) (by decide) (by omega) (right_up hr) (imgF_newest _ 2 2 8 (by omega) hr) (imgF_zero _ 2 2 8 _ _ (by omega) (by omega)) (imgF_zero _ 2 2 8 _ _ (by omega) (by omega))
  have CD := fun (W : World) (gd : Nat) (A : Option Addr) (c : Nat) (hd : RefAt W gd (imgF (22 * 128) 2 2 8) []) => refOpenOk (per := 10) (keep := 5) (A := A) (n := 3) (c := c) (by decide) 2 2 8 hd (by omega) (by omega) (right_up hr) (imgF_newest _ 2 2 8 (by omega) hr) (imgF_zero _ 2 2 8 _ _ (by omega) (by omega)) (imgF_zero _ 2 2 8 _ _ (by omega) (by omega))
  have hin : 1 ≤ (imgF (22 * 128) 2 2 8).length / 128 := by omega
  have hzn : 1 ≤ (zeros (22 * 128)).length / 128 := by rw [zeros_length]; omega
  generalize imgF (22 * 128) 2 2 8 = im at *
  have CN1 := fun (W : World) => diskNew 22 W (by omega) (by omega)
  have CN2 := fun (W : World) => refNew 22 W (by omega)
  generalize zeros (22 * 128) = zn at *
  have CN1 : ∀ W : World, Calls Tryz.prog 5 #[.int .i64 22] W fun e w' => ∃ g, e = .returned (.tuple #[.pointer (some ⟨g, 0, none⟩), .int .i64 0]) ∧ W.heap.size ≤ g ∧ DiskNil w' g zn (-1) ∧ Pu W w' := CN1
  have CN2 : ∀ W : World, Calls Tryz.prog 6 #[.int .i64 22] W fun e w' => ∃ g, e = .returned (.pointer (some ⟨g, 0, none⟩)) ∧ W.heap.size ≤ g ∧ RefAt w' g zn [] ∧ Pu W w' := CN2
  have CA := Lib.hid CA
  have CB := Lib.hid CB
  have CC := Lib.hid CC
  have CD := Lib.hid CD
  have CN1 := Lib.hid CN1
  have CN2 := Lib.hid CN2
  clear hr hil
  go_enter Tryz.func15, Tryz.ntmps15
  go_wp2_with fail
  have hp0 : Pu w (w.alloc (.cells #[.int .u8 1, .int .u8 1, .int .u8 6, .int .u16 9, .int .u16 5] 60)) := (Fr.refl _ _).alloc _
  have hb0 := heap_alloc_new w (.cells #[.int .u8 1, .int .u8 1, .int .u8 6, .int .u16 9, .int .u16 5] 60)
  generalize w.alloc (.cells #[.int .u8 1, .int .u8 1, .int .u8 6, .int .u16 9, .int .u16 5] 60) = w0 at *
  refine (lawNumbers w0).mono ?_
  rintro e w1 ⟨rfl, hp1⟩
  have Hp1 := Lib.hid (hp0.pu hp1)
  have Hb1 := Lib.hid ((hp1.block _ (blk_lt hb0) (fun h => h)).trans hb0)
  clear hp0 hb0 hp1
  go_wp2_with fail
  refine (CN1.out _).mono ?_
  rintro e w2 ⟨gd, rfl, hgd, hd2, hp2⟩
  have hgdw : w.heap.size ≤ gd := Nat.le_trans Hp1.out.size hgd
  have Hp2 := Lib.hid (Hp1.out.pu hp2)
  have Hb2 := Lib.hid ((hp2.block _ (blk_lt Hb1.out) (fun h => h)).trans Hb1.out)
  have Hd2 := Lib.hid hd2
  clear hp2 hd2 Hp1 Hb1
  go_wp2_with fail
  refine (CN2.out _).mono ?_
  rintro e w3 ⟨ge, rfl, hge, hr3, hp3⟩
  have hgew : w.heap.size ≤ ge := Nat.le_trans Hp2.out.size hge
  have hdl := Hd2.out.at_.lt
  have hne : gd ≠ ge := by omega
  have hne2 : ge ≠ gd := by omega
  have Hp3 := Lib.hid (Hp2.out.pu hp3)
  have Hb3 := Lib.hid ((hp3.block _ (blk_lt Hb2.out) (fun h => h)).trans Hb2.out)
  have Hd3 := Lib.hid (Hd2.out.pu hp3)
  have Hr3 := Lib.hid hr3
  clear hp3 hr3 Hp2 Hb2 Hd2
  go_wp2_with fail
  refine (CA.out _ gd Hd3.out).mono ?_
  rintro e w4 ⟨rfl, hd4, hf4⟩
  obtain ⟨_, hdb, hdn⟩ := Hd3.out.noT
  have hbd : w.heap.size ≠ gd := by intro e; have h1 := Hb3.out; rw [e, hdb] at h1; injection h1 with h1; injection h1 with _ h1; exact absurd h1 (by decide)
  have hbe : w.heap.size ≠ ge := by intro e; obtain ⟨_, _, _, h2, -⟩ := Hr3.out; have h1 := Hb3.out; rw [e, h2] at h1; injection h1 with h1; injection h1 with _ h1; exact absurd h1 (by decide)
  have Hp4 := Lib.hid (fr_pu Hp3.out hgdw hf4)
  have Hb4 := Lib.hid ((hf4.block _ (blk_lt Hb3.out) hbd).trans Hb3.out)
  have Hr4 := Lib.hid (Hr3.out.away hdb hdn hne2 hf4)
  have Hd4 := Lib.hid hd4
  clear hdb hdn hf4 hd4 Hp3 Hb3 Hd3 Hr3
  go_wp2_with fail
  refine (CB.out _ ge Hr4.out).mono ?_
  rintro e w5 ⟨rfl, hr5, hf5⟩
  obtain ⟨_, hrb, hrn⟩ := Hr4.out.noU
  have Hp5 := Lib.hid (fr_pu Hp4.out hgew hf5)
  have Hb5 := Lib.hid ((hf5.block _ (blk_lt Hb4.out) hbe).trans Hb4.out)
  have Hd5 := Lib.hid (Hd4.out.away hrb hrn hne hf5)
  have Hr5 := Lib.hid hr5
  clear hrb hrn hf5 hr5 Hp4 Hb4 Hd4 Hr4
  obtain ⟨t0, t1, t2, t3, t4, tf⟩ := sup_block Hb5.out
  have hbl5 := blk_lt Hb5.out
  go_wp2_with fail
  refine (lawPolicy _).mono ?_
  rintro e w6 ⟨b6, rfl, hb6s, hb6, hp6⟩
  have Hp6 := Lib.hid (Hp5.out.pu hp6)
  have Hb6 := Lib.hid ((hp6.block _ (blk_lt Hb5.out) (fun h => h)).trans Hb5.out)
  have Hd6 := Lib.hid (Hd5.out.pu hp6)
  have Hr6 := Lib.hid (Hr5.out.pu hp6)
  clear hp6 Hp5 Hb5 Hd5 Hr5 t0 t1 t2 t3 t4 tf hbl5
  go_wp2_with fail
  refine (CC.out _ gd _ _ _ hb6 Hd6.out).mono ?_
  rintro e w7 ⟨g, lg, kt, ld, dq, rfl, ha7, hg7, hgg7, hd7, hf7⟩
  obtain ⟨_, hdb, hdn⟩ := Hd6.out.noT
  have Hp7 := Lib.hid (fr_pu Hp6.out hgdw hf7)
  have Hb7 := Lib.hid ((hf7.block _ (blk_lt Hb6.out) hbd).trans Hb6.out)
  have Hr7 := Lib.hid (Hr6.out.away hdb hdn hne2 hf7)
  have Ha7 := Lib.hid ha7
  have hgw : w.heap.size ≤ g := Nat.le_trans Hp6.out.size hg7
  clear hdb hdn hf7 hd7 ha7 hb6 Hp6 Hb6 Hd6 Hr6
  obtain ⟨t0, t1, t2, t3, t4, tf⟩ := sup_block Hb7.out
  have hbl7 := blk_lt Hb7.out
  go_wp2_with fail
  refine (lawPolicy _).mono ?_
  rintro e w8 ⟨b8, rfl, hb8s, hb8, hp8⟩
  have Hp8 := Lib.hid (Hp7.out.pu hp8)
  have Hb8 := Lib.hid ((hp8.block _ (blk_lt Hb7.out) (fun h => h)).trans Hb7.out)
  have Hr8 := Lib.hid (Hr7.out.pu hp8)
  have Ha8 := Lib.hid (Ha7.out.pu hp8)
  clear hp8 Hp7 Hb7 Hr7 Ha7 t0 t1 t2 t3 t4 tf hbl7 hb8
  go_wp2_with fail
  refine (CD.out _ ge _ _ Hr8.out).mono ?_
  rintro e w9 ⟨gm, rfl, hm9, hgm9, hr9, hf9⟩
  have Hp9 := Lib.hid (fr_pu Hp8.out hgew hf9)
  have Hb9 := Lib.hid ((hf9.block _ (blk_lt Hb8.out) hbe).trans Hb8.out)
  have Ha9 := Lib.hid (Ha8.out.away Hr8.out hin hf9)
  clear hf9 hr9 hm9 Hp8 Hb8 Hr8 Ha8
  obtain ⟨t0, t1, t2, t3, t4, tf⟩ := sup_block Hb9.out
  have hbl9 := blk_lt Hb9.out
  go_wp2_with fail
  refine (lawPolicy _).mono ?_
  rintro e w10 ⟨b10, rfl, hb10s, hb10, hp10⟩
  have Hp10 := Lib.hid (Hp9.out.pu hp10)
  have Ha10 := Lib.hid (Ha9.out.pu hp10)
  clear hp10 Hp9 Hb9 Ha9 t0 t1 t2 t3 t4 tf hbl9 hb10
  go_wp2
  go_ret
  have hbz := heap_alloc_new w10 (.cells #[.pointer (some ⟨gd, 0, none⟩), .pointer (some ⟨g, 0, none⟩), .pointer (some ⟨ge, 0, none⟩), .pointer (some ⟨gm, 0, none⟩), .int .i64 10, .int .i64 5, .slice (some ⟨b10, 0, none⟩) 3 3] 62)
  have hpz : Pu w10 (w10.alloc (.cells #[.pointer (some ⟨gd, 0, none⟩), .pointer (some ⟨g, 0, none⟩), .pointer (some ⟨ge, 0, none⟩), .pointer (some ⟨gm, 0, none⟩), .int .i64 10, .int .i64 5, .slice (some ⟨b10, 0, none⟩) 3 3] 62)) := (Fr.refl _ _).alloc _
  have hgl10 : g < w10.heap.size := by
    obtain ⟨_, _, _, h9, -⟩ := Ha10.out.at_
    exact blk_lt h9
  exact ⟨w10.heap.size, g, lg, kt, ld, dq, rfl, by rw [cell_of_row _ _ _ _ _ _ hbz]; rfl, Ha10.out.pu hpz, hgw, by omega, Hp10.out.pu hpz⟩
end Go.Proofs.YtaendhbiehknlaaGreatDoor
