/- What is proved here, of the given program: The document's superblocks (ref14): Right, number, Octets. The document's superblocks (ref14): Octets. -/
import Derived.Test.YtaendhbiehknlaaGreatDoorU29
import Derived.Test.YtaendhbiehknlaaGreatDoorU31
set_option linter.unusedVariables false
set_option linter.unusedSimpArgs false
set_option linter.constructorNameAsVariable false
namespace Go.Proofs.YtaendhbiehknlaaGreatDoor
open Go.RowKit Go.Shelf Go.Proofs

theorem supK {s : Sup} (b : Bool) (h : b = s.right) : Ending.returned (Value.bool b) = Ending.returned (Value.bool s.right) := by rw [h]
set_option maxRecDepth 100000 in
set_option maxHeartbeats 1000000 in
theorem refRight (s : Sup) (w : World) : Calls Tryz.prog 29 #[s.v] w fun e w' => e = .returned (.bool s.right) ∧ Pu w w' := by
  obtain ⟨gen, boot, slots, segs, size⟩ := s
  have K := fun b => supK (s := ⟨gen, boot, slots, segs, size⟩) b
  unfold Sup.v
  dsimp only
  go_enter Tryz.func29, Tryz.ntmps29
  go_wp2
  all_goals
    go_ret
    refine ⟨K _ ?_, (Fr.refl _ _).alloc _⟩
    rw [Bool.eq_iff_iff]
    simp [Sup.right, withinB]
    try omega
set_option maxRecDepth 100000 in
theorem refPolRight (per keep : Int) (A : Option Addr) (n c : Nat) (w : World) :
    Calls Tryz.prog 43 #[.agg #[.int .i64 per, .int .i64 keep, .slice A n c]] w fun e w' => e = .returned (.bool (polRight per keep n)) ∧ Pu w w' := by
  go_enter Tryz.func43, Tryz.ntmps43
  go_wp2
  all_goals
    go_ret
    refine ⟨?_, (Fr.refl _ _).alloc _⟩
    refine polK _ ?_
    rw [Bool.eq_iff_iff]
    simp [polRight]
    try omega
set_option maxRecDepth 100000 in
theorem refNum (l : Bytes) (w : World) (h : l.length ≤ 8) : Calls Tryz.prog 218 #[.string (str l)] w fun e w' => e = .returned (.int .i64 (wrap64 (value l : Nat))) ∧ w = w' := by
  have C := refValue (str l) w (by rw [str_size]; exact h)
  rw [str_data] at C
  have C := Lib.hid C
  go_enter Tryz.func218, Tryz.ntmps218
  go_wp2_with fail
  refine C.out.mono ?_
  rintro e w' ⟨rfl, rfl⟩
  go_wp2
  go_ret
  exact ⟨rfl, rfl⟩
theorem sector_eq (l : Bytes) (h : l.length ≤ 128) : sector l = l ++ zeros (128 - l.length) := by
  rw [sector, patch, List.take_zero, List.nil_append, Nat.zero_add, zeros_drop]
end Go.Proofs.YtaendhbiehknlaaGreatDoor

namespace Go.Proofs.YtaendhbiehknlaaGreatDoor
open Go.RowKit Go.Shelf Go.Proofs

abbrev S5 (w1 : World) (b : Nat) (x y z u v : Value) (w' : World) : Prop := w'.cell? ⟨b, 0, none⟩ = some x ∧ w'.cell? ⟨b, 1, none⟩ = some y ∧ w'.cell? ⟨b, 2, none⟩ = some z ∧ w'.cell? ⟨b, 3, none⟩ = some u ∧ w'.cell? ⟨b, 4, none⟩ = some v ∧ Pu w1 w'
theorem S5.pu {w1 : World} {b : Nat} {x y z u v : Value} {w w' : World} (hp : Pu w w') (h : S5 w1 b x y z u v w) : S5 w1 b x y z u v w' := by
  obtain ⟨h0, h1, h2, h3, h4, h5⟩ := h
  have hl : b < w.heap.size := World.block_lt_of_cell? w _ h1
  exact ⟨(hp.pcell b _ hl).trans h0, (hp.pcell b _ hl).trans h1, (hp.pcell b _ hl).trans h2, (hp.pcell b _ hl).trans h3, (hp.pcell b _ hl).trans h4, h5.pu hp⟩
theorem S5.drew {w1 : World} {b : Nat} {x y z u v : Value} {w : World} (h : S5 w1 b x y z u v w) : S5 w1 b x y z u v w.drew := S5.pu ((Fr.refl No w).drew) h
theorem S5.drewN {w1 : World} {b : Nat} {x y z u v : Value} {w : World} (n : Nat) (h : S5 w1 b x y z u v w) : S5 w1 b x y z u v (w.drewN n) := S5.pu ((Fr.refl No w).drewN n) h
theorem S5.alloc {w1 : World} {b : Nat} {x y z u v : Value} {w : World} (o : Obj) (h : S5 w1 b x y z u v w) : S5 w1 b x y z u v (w.alloc o) := S5.pu ((Fr.refl No w).alloc o) h
set_option maxRecDepth 100000 in
set_option maxHeartbeats 2000000 in
theorem refOctets (s : Sup) (w : World) (h : s.right = true) : Calls Tryz.prog 79 #[s.v] w fun e w' => e = .returned (.string (str s.bytes)) ∧ Pu w w' := by
  obtain ⟨r1, r2, r3, r4, r5⟩ := s.right_iff.1 h
  have hbe := sector_eq (crcWith s.raw) (by rw [crcWith_length, s.raw_length]; omega)
  have hbl : (crcWith s.raw).length = 36 := by rw [crcWith_length, s.raw_length]
  rw [hbl] at hbe
  have Hbe := Lib.hid (show s.bytes = crcWith s.raw ++ zeros 92 from hbe)
  have Hbl := Lib.hid hbl
  have C6 := Lib.hid (fun W => refWith s.raw W (by rw [s.raw_length]; omega))
  have hraw : s.raw = engs ++ number s.gen.toNat 8 ++ number s.boot.toNat 8 ++ number s.slots.toNat 4 ++ number s.segs.toNat 4 ++ number s.size.toNat 4 := rfl
  have Hraw := Lib.hid hraw
  generalize s.raw = raw at *
  generalize s.bytes = sb at *
  clear hbe hbl hraw h
  obtain ⟨gen, boot, slots, segs, size⟩ := s
  dsimp only at *
  unfold Sup.v
  dsimp only
  obtain ⟨g0, rfl⟩ : ∃ n : Nat, gen = n := ⟨gen.toNat, by omega⟩
  obtain ⟨g1, rfl⟩ : ∃ n : Nat, boot = n := ⟨boot.toNat, by omega⟩
  obtain ⟨g2, rfl⟩ : ∃ n : Nat, slots = n := ⟨slots.toNat, by omega⟩
  obtain ⟨g3, rfl⟩ : ∃ n : Nat, segs = n := ⟨segs.toNat, by omega⟩
  obtain ⟨g4, rfl⟩ : ∃ n : Nat, size = n := ⟨size.toNat, by omega⟩
  simp only [Int.toNat_natCast] at Hraw
  have C1 := Lib.hid (fun W => refNumber8 g0 W (Lib.hid (by omega)))
  have C2 := Lib.hid (fun W => refNumber8 g1 W (Lib.hid (by omega)))
  have C3 := Lib.hid (fun W => refNumber4 g2 W (Lib.hid (by omega)))
  have C4 := Lib.hid (fun W => refNumber4 g3 W (Lib.hid (by omega)))
  have C5 := Lib.hid (fun W => refNumber4 g4 W (Lib.hid (by omega)))
  have l1 := number_length g0 8
  have l2 := number_length g1 8
  have l3 := number_length g2 4
  have l4 := number_length g3 4
  have l5 := number_length g4 4
  generalize number g0 8 = n1 at *
  generalize number g1 8 = n2 at *
  generalize number g2 4 = n3 at *
  generalize number g3 4 = n4 at *
  generalize number g4 4 = n5 at *
  have q0 : IntKind.u64.wrap (g0 : Int) = (g0 : Int) := by rw [IntKind.wrap_u64]; omega
  have q1 : IntKind.u64.wrap (g1 : Int) = (g1 : Int) := by rw [IntKind.wrap_u64]; omega
  have q2 : IntKind.u64.wrap (g2 : Int) = (g2 : Int) := by rw [IntKind.wrap_u64]; omega
  have q3 : IntKind.u64.wrap (g3 : Int) = (g3 : Int) := by rw [IntKind.wrap_u64]; omega
  have q4 : IntKind.u64.wrap (g4 : Int) = (g4 : Int) := by rw [IntKind.wrap_u64]; omega
  have l0 : engs.length = 4 := rfl
  have a1 := fun W => run_add_str (P := Tryz.prog) W engs n1 (by omega)
  have a1 : ∀ W, (Op.stringOp .add ⟨#[101, 110, 103, 115]⟩ (str n1)).run Tryz.prog W = .ok (.string (str (engs ++ n1))) W := a1
  have m1 : (engs ++ n1).length = 12 := by rw [List.length_append]; omega
  generalize engs ++ n1 = t1 at *
  have a2 := fun W => run_add_str (P := Tryz.prog) W t1 n2 (by omega)
  have m2 : (t1 ++ n2).length = 20 := by rw [List.length_append]; omega
  generalize t1 ++ n2 = t2 at *
  have a3 := fun W => run_add_str (P := Tryz.prog) W t2 n3 (by omega)
  have m3 : (t2 ++ n3).length = 24 := by rw [List.length_append]; omega
  generalize t2 ++ n3 = t3 at *
  have a4 := fun W => run_add_str (P := Tryz.prog) W t3 n4 (by omega)
  have m4 : (t3 ++ n4).length = 28 := by rw [List.length_append]; omega
  generalize t3 ++ n4 = t4 at *
  have a5 := fun W => run_add_str (P := Tryz.prog) W t4 n5 (by omega)
  rw [← Hraw.out] at a5
  clear l0 l1 l2 l3 l4 l5 m1 m2 m3 m4 Hraw
  go_enter Tryz.func79, Tryz.ntmps79
  go_wp2_with fail
  have hb0 := heap_alloc_new w (.cells #[.int .i64 g0, .int .i64 g1, .int .i64 g2, .int .i64 g3, .int .i64 g4] 82)
  have hp0 : Pu w (w.alloc (.cells #[.int .i64 g0, .int .i64 g1, .int .i64 g2, .int .i64 g3, .int .i64 g4] 82)) := (Fr.refl _ _).alloc _
  generalize w.alloc (.cells #[.int .i64 g0, .int .i64 g1, .int .i64 g2, .int .i64 g3, .int .i64 g4] 82) = w0 at *
  obtain ⟨x0, x1, x2, x3, x4, -⟩ := sup_block hb0
  have hL : S5 w0 w.heap.size (.int .i64 g0) (.int .i64 g1) (.int .i64 g2) (.int .i64 g3) (.int .i64 g4) w0 := ⟨x0, x1, x2, x3, x4, Fr.refl _ _⟩
  have Hp0 := Lib.hid hp0
  clear hb0 hp0
  go_region_held3 (fun w' => w'.cell? ⟨w.heap.size, 0, none⟩ = some (.int .i64 g0) ∧ w'.cell? ⟨w.heap.size, 1, none⟩ = some (.int .i64 g1) ∧ w'.cell? ⟨w.heap.size, 2, none⟩ = some (.int .i64 g2) ∧ w'.cell? ⟨w.heap.size, 3, none⟩ = some (.int .i64 g3) ∧ w'.cell? ⟨w.heap.size, 4, none⟩ = some (.int .i64 g4) ∧ Pu w0 w')
    (first | with_reducible exact hL | with_reducible exact hk | with_reducible exact S5.drew hL | with_reducible exact S5.drew (by assumption))
    (first
      | (go_at_call 131; (with_reducible refine (C1.out _).mono ?_); rintro e w' ⟨rfl, hp⟩; have hk := S5.pu (w1 := w0) (b := w.heap.size) (x := .int .i64 g0) (y := .int .i64 g1) (z := .int .i64 g2) (u := .int .i64 g3) (v := .int .i64 g4) hp (by assumption); clear hp)
      | (go_at_call 131; (with_reducible refine (C2.out _).mono ?_); rintro e w' ⟨rfl, hp⟩; have hk := S5.pu (w1 := w0) (b := w.heap.size) (x := .int .i64 g0) (y := .int .i64 g1) (z := .int .i64 g2) (u := .int .i64 g3) (v := .int .i64 g4) hp (by assumption); clear hp)
      | (go_at_call 131; (with_reducible refine (C3.out _).mono ?_); rintro e w' ⟨rfl, hp⟩; have hk := S5.pu (w1 := w0) (b := w.heap.size) (x := .int .i64 g0) (y := .int .i64 g1) (z := .int .i64 g2) (u := .int .i64 g3) (v := .int .i64 g4) hp (by assumption); clear hp)
      | (go_at_call 131; (with_reducible refine (C4.out _).mono ?_); rintro e w' ⟨rfl, hp⟩; have hk := S5.pu (w1 := w0) (b := w.heap.size) (x := .int .i64 g0) (y := .int .i64 g1) (z := .int .i64 g2) (u := .int .i64 g3) (v := .int .i64 g4) hp (by assumption); clear hp)
      | (go_at_call 131; (with_reducible refine (C5.out _).mono ?_); rintro e w' ⟨rfl, hp⟩; have hk := S5.pu (w1 := w0) (b := w.heap.size) (x := .int .i64 g0) (y := .int .i64 g1) (z := .int .i64 g2) (u := .int .i64 g3) (v := .int .i64 g4) hp (by assumption); clear hp))

  all_goals
    rename_i hHeld
    obtain ⟨-, -, -, -, -, hpw⟩ := hHeld
    have HPW := Lib.hid (Hp0.out.pu hpw)
    clear hpw hL
    go_wp2_with fail

    refine (C6.out _).mono ?_
    rintro e w6 ⟨rfl, hp6⟩
    have HP6 := Lib.hid (HPW.out.pu hp6)
    clear hp6
    have hsz : (str (crcWith raw)).size = 36 := by rw [str_size]; exact Hbl.out
    have hadd := fun W => run_add_str (P := Tryz.prog) W (crcWith raw) (zeros 92) (by rw [Hbl.out, zeros_length]; omega)
    rw [← Hbe.out] at hadd
    generalize crcWith raw = cw at *
    obtain ⟨w7, hrun, ho7, hp7⟩ := run_zeros w6 92 (by omega)
    have hrun : (Instr.makeSlice 23 (.int .i64 92) (.int .i64 92)).run Tryz.prog w6 = .ok (.slice (some ⟨w6.heap.size, 0, none⟩) 92 92) w7 := hrun
    have hcv := run_str (P := Tryz.prog) (Bs.own ho7) Tryz.underlying23 Tryz.underlying5 Tryz.underlying9
    have HP7 := Lib.hid (HP6.out.pu hp7)
    clear ho7 hp7
    go_wp2
    go_ret
    exact ⟨rfl, HP7.out⟩
end Go.Proofs.YtaendhbiehknlaaGreatDoor
