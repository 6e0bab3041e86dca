/- What is proved here, of the given program: The document's superblocks (ref14): Store; and Format (ref29). -/
import Derived.Test.YtaendhbiehknlaaGreatDoorU40
import Derived.Test.YtaendhbiehknlaaGreatDoorU35
set_option linter.unusedVariables false
set_option linter.unusedSimpArgs false
set_option linter.constructorNameAsVariable false
namespace Go.Proofs.YtaendhbiehknlaaGreatDoor
open Go.RowKit Go.Shelf Go.Proofs

abbrev C5 (b : Nat) (x y z u v : Value) (w' : World) : Prop := w'.cell? ⟨b, 0, none⟩ = some x ∧ w'.cell? ⟨b, 1, none⟩ = some y ∧ w'.cell? ⟨b, 2, none⟩ = some z ∧ w'.cell? ⟨b, 3, none⟩ = some u ∧ w'.cell? ⟨b, 4, none⟩ = some v
theorem C5.fr {S : Nat → Prop} {b : Nat} {x y z u v : Value} {w w' : World} (hp : Fr S w w') (hb : ¬ S b) (h : C5 b x y z u v w) : C5 b x y z u v w' := by
  obtain ⟨h0, h1, h2, h3, h4⟩ := h
  have hl : b < w.heap.size := World.block_lt_of_cell? w _ h1
  exact ⟨(hp.cell b _ hl hb).trans h0, (hp.cell b _ hl hb).trans h1, (hp.cell b _ hl hb).trans h2, (hp.cell b _ hl hb).trans h3, (hp.cell b _ hl hb).trans h4⟩
theorem C5.drew {b : Nat} {x y z u v : Value} {w : World} (h : C5 b x y z u v w) : C5 b x y z u v w.drew := C5.fr ((Fr.refl No w).drew) (fun h => h) h
section
variable {w w1 : World} {g : Nat} {img : Bytes}
set_option maxRecDepth 100000 in
set_option maxHeartbeats 1000000 in
theorem refStore (s : Sup) (h : RefAt w g img []) (hl : img.length ≤ 17592186044416) (ht : 2 ≤ img.length / 128) (hs : s.right = true) :
    Calls Tryz.prog 32 #[.pointer (some ⟨g, 0, none⟩), s.v] w fun e w' => e = .returned (.int .i64 0) ∧ RefAt w' g (patch img ((s.gen % 2).toNat * 128) s.bytes) [] ∧ Fr (At g) w w' := by
  have hr := (s.right_iff.1 hs).1
  obtain ⟨p, hp⟩ : ∃ p, p = (s.gen % 2).toNat := ⟨_, rfl⟩
  have hp2 : p < 2 := by rw [hp]; omega
  have hpi : s.gen % 2 = (p : Int) := by rw [hp]; omega
  rw [← hp]
  have hgl := h.lt
  have Hd := Lib.hid h
  have CR := fun W : World => refRight s W
  rw [hs] at CR
  have CO := fun W : World => refOctets s W hs
  have hlay := lay_parts img s.bytes p 1 (by rw [s.bytes_length]) (by omega)
  have hqok : QOk img.length (partsOf (p : Int) s.bytes 1) := partsOf_ok p s.bytes 1 img.length (by rw [s.bytes_length]) (by omega) 1 (Nat.le_refl _)
  have Hlay := Lib.hid hlay
  have Hq := Lib.hid hqok
  have CW := fun (W : World) (hW : RefAt W g img []) => refWrite hW hl p 1 s.bytes (by rw [s.bytes_length]) ((thereB_iff _ _ _).2 (by omega))
  have hsv := sup_shape s
  rw [hsv] at CR CO ⊢
  have CR := Lib.hid CR
  have CO := Lib.hid CO
  have CW := Lib.hid CW
  have hg0 : 1 ≤ s.gen := hr.1
  generalize s.bytes = b at *
  clear h hs hr hp hlay hqok ht hsv
  obtain ⟨sg, sb, ss, sn, sz⟩ := s
  dsimp only at *
  have hpt : sg.tmod 2 = (p : Int) := by rw [Int.tmod_eq_emod_of_nonneg (by omega)]; exact hpi
  go_enter Tryz.func32, Tryz.ntmps32
  go_wp2_with fail
  have hp0 : Pu w (w.alloc (.cells #[.int .i64 sg, .int .i64 sb, .int .i64 ss, .int .i64 sn, .int .i64 sz] 82)) := (Fr.refl _ _).alloc _
  have hb0 := heap_alloc_new w (.cells #[.int .i64 sg, .int .i64 sb, .int .i64 ss, .int .i64 sn, .int .i64 sz] 82)
  generalize w.alloc (.cells #[.int .i64 sg, .int .i64 sb, .int .i64 ss, .int .i64 sn, .int .i64 sz] 82) = w0 at *
  refine (CR.out w0).mono ?_
  rintro e w1 ⟨rfl, hp1⟩
  have Hp1 := Lib.hid (hp0.pu hp1)
  have hb1 := (hp1.block _ (blk_lt hb0) (fun h => h)).trans hb0
  obtain ⟨t0, t1, t2, t3, t4, -⟩ := sup_block hb1
  have hL : C5 w.heap.size (.int .i64 sg) (.int .i64 sb) (.int .i64 ss) (.int .i64 sn) (.int .i64 sz) w1 := ⟨t0, t1, t2, t3, t4⟩
  have Hr1 := Lib.hid (Hd.out.pu Hp1.out)
  have hgb : g ≠ w.heap.size := by omega
  clear hp0 hb0 hp1 hb1
  go_wp2_with fail
  go_region_held3 (fun w' => w'.cell? ⟨w.heap.size, 0, none⟩ = some (.int .i64 sg) ∧ w'.cell? ⟨w.heap.size, 1, none⟩ = some (.int .i64 sb) ∧ w'.cell? ⟨w.heap.size, 2, none⟩ = some (.int .i64 ss) ∧ w'.cell? ⟨w.heap.size, 3, none⟩ = some (.int .i64 sn) ∧ w'.cell? ⟨w.heap.size, 4, none⟩ = some (.int .i64 sz))
    (first | with_reducible exact hL | with_reducible exact hk | with_reducible exact C5.drew hL | with_reducible exact C5.drew (by assumption))
    (first
      | (go_at_call 79; (with_reducible refine (CO.out _).mono ?_); rintro e w2 ⟨rfl, hp2⟩; have hk := C5.fr (b := w.heap.size) (x := .int .i64 sg) (y := .int .i64 sb) (z := .int .i64 ss) (u := .int .i64 sn) (v := .int .i64 sz) hp2 (fun h => h) (by assumption); have Hr2 := Lib.hid ((Hr1.out.pu ((Fr.refl _ _).drew)).pu hp2); have Hp2 := Lib.hid ((Hp1.out.drew).pu hp2); clear hp2)
      | (go_at_call 30; (with_reducible refine (CW.out _ Hr2.out).mono ?_); rintro e w3 ⟨rfl, hr3, hf3⟩; have hk := C5.fr (b := w.heap.size) (x := .int .i64 sg) (y := .int .i64 sb) (z := .int .i64 ss) (u := .int .i64 sn) (v := .int .i64 sz) hf3 (fun e => hgb e.symm) (by assumption); have Hr3 := Lib.hid hr3; have Hf3 := Lib.hid (Hp2.out.any.trans hf3 (fun _ _ h => h)); clear hr3 hf3))
  all_goals
    rename_i hHeld
    clear hHeld hL hk t0 t1 t2 t3 t4
    go_wp2_with fail
    refine (refFlush Hr3.out Hq.out hl).mono ?_
    rintro e w4 ⟨rfl, hr4, hf4⟩
    rw [Hlay.out] at hr4
    have Hr4 := Lib.hid hr4
    have Hf4 := Lib.hid (Hf3.out.trans hf4 (fun _ _ h => h))
    clear hr4 hf4
    go_wp2
    go_ret
    exact ⟨rfl, Hr4.out, Hf4.out⟩
set_option maxRecDepth 100000 in
set_option maxHeartbeats 1000000 in
theorem refFormatBad (a b c : Int) (v : Value) (hs : (Sup.mk 1 0 a b c).right = false) :
    Calls Tryz.prog 9 #[v, .int .i64 a, .int .i64 b, .int .i64 c] w fun e w' => e = .returned (.int .i64 2) ∧ Pu w w' := by
  have CR := fun W : World => refRight ⟨1, 0, a, b, c⟩ W
  rw [hs] at CR
  unfold Sup.v at CR
  dsimp only at CR
  have CR := Lib.hid CR
  clear hs
  go_enter Tryz.func9, Tryz.ntmps9
  go_wp2_with fail
  refine (CR.out _).mono ?_
  rintro e w1 ⟨rfl, hp1⟩
  have Hp1 := Lib.hid (((Fr.refl _ _).alloc _ : Pu w _).pu hp1)
  clear hp1
  go_wp2
  go_ret
  exact ⟨rfl, Hp1.out⟩
set_option maxRecDepth 100000 in
set_option maxHeartbeats 1000000 in
theorem refWriteNo {w : World} {g : Nat} {img : Bytes} (h : RefAt w g img []) (hl : img.length ≤ 17592186044416) (a m : Nat) (l : Bytes) (hm : l.length = m * 128) (ha : a ≤ 1099511627776) (hlb : l.length ≤ 17592186044416) (ht : thereB (img.length / 128) a m = false) :
    Calls Tryz.prog 30 #[.pointer (some ⟨g, 0, none⟩), .int .i64 a, .string (str l)] w fun e w' => e = .returned (.int .i64 20) ∧ w = w' := by
  have C1 := Lib.hid (refThere h a m hl (by omega))
  rw [ht] at C1
  obtain ⟨N, hN⟩ : ∃ N, N = l.length := ⟨_, rfl⟩
  have hsz : (str l).size = N := by rw [str_size, hN]
  have hmI : ((N : Nat) : Int) % 128 = 0 := by omega
  have hdI : ((N : Nat) : Int) / 128 = (m : Int) := by omega
  have hNb : N ≤ 17592186044416 := by omega
  clear h ht hm hN
  go_enter Tryz.func30, Tryz.ntmps30
  go_wp2_with fail
  refine C1.out.mono ?_
  rintro e w' ⟨rfl, rfl⟩
  go_wp2
  go_ret
  exact ⟨rfl, rfl⟩
theorem sectors_nat (a b c : Int) (m : Nat) (h : (Sup.mk 1 0 a b c).sectors = m) : 2 + 2 * a + b * c = (m : Int) := h
set_option maxRecDepth 100000 in
set_option maxHeartbeats 1000000 in
theorem refFormatShort {w : World} {g : Nat} {img : Bytes} (h : RefAt w g img []) (hl : img.length ≤ 17592186044416) (a b c : Int) (m : Nat) (hs : (Sup.mk 1 0 a b c).right = true) (hm : (Sup.mk 1 0 a b c).sectors = m) (hmm : m ≤ 1000000) (ht : img.length / 128 < m) :
    Calls Tryz.prog 9 #[.pointer (some ⟨g, 0, none⟩), .int .i64 a, .int .i64 b, .int .i64 c] w fun e w' => e = .returned (.int .i64 20) ∧ Pu w w' := by
  obtain ⟨-, -, ⟨r3, r3'⟩, ⟨r4, r4'⟩, ⟨r5, r5'⟩⟩ := (Sup.right_iff _).1 hs
  dsimp only at r3 r3' r4 r4' r5 r5'
  have hsec := sectors_nat a b c m hm
  have hbcn : 0 ≤ b * c := Int.mul_nonneg (by omega) (by omega)
  obtain ⟨bc, hbc⟩ : ∃ bc, bc = b * c := ⟨_, rfl⟩
  rw [← hbc] at hsec hbcn
  have hbc0 : 0 ≤ bc ∧ bc ≤ 1000000 := by omega
  have k1 : IntKind.i64.wrap (b * c) = bc := by rw [← hbc]; exact IntWalk.i64_in _ (by omega)
  have k2 : IntKind.i64.wrap (2 * a) = 2 * a := IntWalk.i64_in _ (by omega)
  have k3 : IntKind.i64.wrap (2 + 2 * a) = 2 + 2 * a := IntWalk.i64_in _ (by omega)
  have k4 : IntKind.i64.wrap (2 + 2 * a + bc) = (m : Int) := by rw [hsec]; exact IntWalk.i64_in _ (by omega)
  have k5 : IntKind.i64.wrap (128 * (m : Int)) = ((m * 128 : Nat) : Int) := by rw [IntWalk.i64_in _ (by omega)]; omega
  obtain ⟨N, hN⟩ : ∃ N, N = m * 128 := ⟨_, rfl⟩
  rw [← hN] at k5
  have hmk := run_zrow N (by omega)
  have hzs := run_zstr N (by omega)
  have CR := fun W : World => refRight ⟨1, 0, a, b, c⟩ W
  rw [hs] at CR
  unfold Sup.v at CR
  dsimp only at CR
  have CR := Lib.hid CR
  have CW := Lib.hid (fun (W : World) (hW : RefAt W g img []) => refWriteNo hW hl 0 m (zeros N) (by rw [zeros_length]; exact hN) (by omega) (by rw [zeros_length]; omega) (by
    cases hq : thereB (img.length / 128) 0 m
    · rfl
    · have := (thereB_iff _ _ _).1 hq; omega))
  have Hr := Lib.hid h
  clear hs hm h ht hsec hbc hN
  go_enter Tryz.func9, Tryz.ntmps9
  go_wp2_with fail
  have hb0 := heap_alloc_new w (.cells #[.int .i64 1, .int .i64 0, .int .i64 a, .int .i64 b, .int .i64 c] 82)
  have hp0 : Pu w (w.alloc (.cells #[.int .i64 1, .int .i64 0, .int .i64 a, .int .i64 b, .int .i64 c] 82)) := (Fr.refl _ _).alloc _
  generalize w.alloc (.cells #[.int .i64 1, .int .i64 0, .int .i64 a, .int .i64 b, .int .i64 c] 82) = w0 at *
  refine (CR.out _).mono ?_
  rintro e w1 ⟨rfl, hp1⟩
  have Hp1 := Lib.hid (hp0.pu hp1)
  clear hp1 hb0 hp0
  go_wp2_with fail
  refine (CW.out _ (Hr.out.pu (Hp1.out.alloc _))).mono ?_
  rintro e w2 ⟨rfl, rfl⟩
  go_wp2
  go_ret
  exact ⟨rfl, Hp1.out.alloc _⟩
set_option maxRecDepth 100000 in
set_option maxHeartbeats 1000000 in
theorem refFormat {w : World} {g : Nat} {img : Bytes} (h : RefAt w g img []) (hl : img.length ≤ 17592186044416) (a b c : Int) (m : Nat) (hs : (Sup.mk 1 0 a b c).right = true) (hm : (Sup.mk 1 0 a b c).sectors = m) (hmm : 2 ≤ m ∧ m ≤ 1000000) (ht : m ≤ img.length / 128) :
    Calls Tryz.prog 9 #[.pointer (some ⟨g, 0, none⟩), .int .i64 a, .int .i64 b, .int .i64 c] w fun e w' => e = .returned (.int .i64 0) ∧ RefAt w' g (patch (patch img 0 (zeros (m * 128))) 128 (Sup.mk 1 0 a b c).bytes) [] ∧ Fr (At g) w w' := by
  obtain ⟨-, -, ⟨r3, r3'⟩, ⟨r4, r4'⟩, ⟨r5, r5'⟩⟩ := (Sup.right_iff _).1 hs
  dsimp only at r3 r3' r4 r4' r5 r5'
  have hsec := sectors_nat a b c m hm
  have hbcn : 0 ≤ b * c := Int.mul_nonneg (by omega) (by omega)
  obtain ⟨bc, hbc⟩ : ∃ bc, bc = b * c := ⟨_, rfl⟩
  rw [← hbc] at hsec hbcn
  have hbc0 : 0 ≤ bc ∧ bc ≤ 1000000 := by omega
  have k1 : IntKind.i64.wrap (b * c) = bc := by rw [← hbc]; exact IntWalk.i64_in _ (by omega)
  have k2 : IntKind.i64.wrap (2 * a) = 2 * a := IntWalk.i64_in _ (by omega)
  have k3 : IntKind.i64.wrap (2 + 2 * a) = 2 + 2 * a := IntWalk.i64_in _ (by omega)
  have k4 : IntKind.i64.wrap (2 + 2 * a + bc) = (m : Int) := by rw [hsec]; exact IntWalk.i64_in _ (by omega)
  have k5 : IntKind.i64.wrap (128 * (m : Int)) = ((m * 128 : Nat) : Int) := by rw [IntWalk.i64_in _ (by omega)]; omega
  have hplen : (patch img 0 (zeros (m * 128))).length = img.length := patch_length _ _ _ (by rw [zeros_length]; omega)
  have hlay : lay img (partsOf ((0 : Nat) : Int) (zeros (m * 128)) m) = patch img 0 (zeros (m * 128)) := by rw [lay_parts img _ 0 m (by rw [zeros_length]) (by omega), Nat.zero_mul]
  have hqok : QOk img.length (partsOf ((0 : Nat) : Int) (zeros (m * 128)) m) := partsOf_ok 0 _ m img.length (by rw [zeros_length]) (by omega) m (Nat.le_refl _)
  have CS := fun (W : World) (hW : RefAt W g (patch img 0 (zeros (m * 128))) []) => refStore ⟨1, 0, a, b, c⟩ hW (by rw [hplen]; exact hl) (by rw [hplen]; omega) hs
  obtain ⟨N, hN⟩ : ∃ N, N = m * 128 := ⟨_, rfl⟩
  rw [← hN] at k5 hlay hqok CS ⊢
  have hmk := run_zrow N (by omega)
  have hzs := run_zstr N (by omega)
  have CR := fun W : World => refRight ⟨1, 0, a, b, c⟩ W
  rw [hs] at CR
  unfold Sup.v at CR CS
  dsimp only at CR CS
  rw [show ((1 : Int) % 2).toNat * 128 = 128 from rfl] at CS
  have CR := Lib.hid CR
  have CS := Lib.hid CS
  have CW := Lib.hid (fun (W : World) (hW : RefAt W g img []) => refWrite hW hl 0 m (zeros N) (by rw [zeros_length]; exact hN) ((thereB_iff _ _ _).2 (by omega)))
  have CF := Lib.hid (fun (W : World) (hW : RefAt W g img (partsOf ((0 : Nat) : Int) (zeros N) m)) => refFlush hW hqok hl)
  rw [hlay] at CF
  have Hr := Lib.hid h
  have hgl := h.lt
  clear hs hm h ht hsec hbc hN hlay hqok hplen
  generalize (Sup.mk 1 0 a b c).bytes = sb at *
  go_enter Tryz.func9, Tryz.ntmps9
  go_wp2_with fail
  have hb0 := heap_alloc_new w (.cells #[.int .i64 1, .int .i64 0, .int .i64 a, .int .i64 b, .int .i64 c] 82)
  have hp0 : Pu w (w.alloc (.cells #[.int .i64 1, .int .i64 0, .int .i64 a, .int .i64 b, .int .i64 c] 82)) := (Fr.refl _ _).alloc _
  generalize w.alloc (.cells #[.int .i64 1, .int .i64 0, .int .i64 a, .int .i64 b, .int .i64 c] 82) = w0 at *
  refine (CR.out _).mono ?_
  rintro e w1 ⟨rfl, hp1⟩
  have Hp1 := Lib.hid (hp0.pu hp1)
  have Hb1 := Lib.hid ((hp1.block _ (blk_lt hb0) (fun h => h)).trans hb0)
  clear hp1 hb0 hp0
  go_wp2_with fail
  refine (CW.out _ (Hr.out.pu (Hp1.out.alloc _))).mono ?_
  rintro e w2 ⟨rfl, hr2, hf2⟩
  have Hr2 := Lib.hid hr2
  have Hf2 := Lib.hid (((Hp1.out.alloc _).any : Fr (At g) w _).trans hf2 (fun _ _ h => h))
  have Hb2 := Lib.hid ((hf2.block w.heap.size (by have := blk_lt Hb1.out; simp; omega) (fun e => by have e : w.heap.size = g := e; omega)).trans ((heap_alloc_old _ _ _ (blk_lt Hb1.out)).trans Hb1.out))
  clear hr2 hf2
  go_wp2_with fail
  refine (CF.out _ Hr2.out).mono ?_
  rintro e w3 ⟨rfl, hr3, hf3⟩
  have Hr3 := Lib.hid hr3
  have Hf3 := Lib.hid (Hf2.out.trans hf3 (fun _ _ h => h))
  have Hb3 := Lib.hid ((hf3.block w.heap.size (blk_lt Hb2.out) (fun e => by have e : w.heap.size = g := e; omega)).trans Hb2.out)
  clear hr3 hf3
  obtain ⟨t0, t1, t2, t3, t4, tf⟩ := sup_block Hb3.out
  go_wp2_with fail
  refine (CS.out _ Hr3.out).mono ?_
  rintro e w4 ⟨rfl, hr4, hf4⟩
  have Hr4 := Lib.hid hr4
  have Hf4 := Lib.hid (Hf3.out.trans hf4 (fun _ _ h => h))
  clear hr4 hf4 t0 t1 t2 t3 t4 tf
  go_wp2
  go_ret
  exact ⟨rfl, Hr4.out, Hf4.out⟩
end
end Go.Proofs.YtaendhbiehknlaaGreatDoor
