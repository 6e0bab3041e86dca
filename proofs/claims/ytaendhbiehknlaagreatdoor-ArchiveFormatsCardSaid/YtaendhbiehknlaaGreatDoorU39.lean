/- What is proved here, of the given program: The document's superblocks (ref14): Read. -/
import Derived.Test.YtaendhbiehknlaaGreatDoorU32
set_option linter.unusedVariables false
set_option linter.unusedSimpArgs false
set_option linter.constructorNameAsVariable false
namespace Go.Proofs.YtaendhbiehknlaaGreatDoor
open Go.RowKit Go.Shelf Go.Proofs

theorem wrap4 (l : Bytes) (h : l.length ≤ 4) : wrap64 (value l : Nat) = (value l : Nat) := by
  have h1 := value_lt l
  have h2 : 256 ^ l.length ≤ 256 ^ 4 := Nat.pow_le_pow_right (by decide) h
  unfold wrap64; omega
theorem cut_length (l : Bytes) (o n : Nat) (h : o + n ≤ l.length) : (cut l o n).length = n := by rw [cut, List.length_take, List.length_drop]; omega
set_option maxRecDepth 100000 in
set_option maxHeartbeats 2000000 in
theorem refRead14 (b : Bytes) (place : Int) (w : World) (hb : b.length = 128) :
    Calls Tryz.prog 148 #[.string (str b), .int .i64 place] w fun e w' => e = .returned (.tuple #[(supOf (readSup b place)).1.v, .bool (supOf (readSup b place)).2]) ∧ Pu w w' := by
  have hsz : (str b).size = 128 := by rw [str_size]; exact hb
  have s1 : ∀ W, (Instr.slice 9 (.string (str b)) (some (.int .i64 4)) (some (.int .i64 12)) none).run Tryz.prog W = .ok (.string (str (cut b 4 8))) W := fun W => run_cut (P := Tryz.prog) W 9 b 4 12 Tryz.underlying9 (by omega) (by omega) (by omega)
  have s2 : ∀ W, (Instr.slice 9 (.string (str b)) (some (.int .i64 12)) (some (.int .i64 20)) none).run Tryz.prog W = .ok (.string (str (cut b 12 8))) W := fun W => run_cut (P := Tryz.prog) W 9 b 12 20 Tryz.underlying9 (by omega) (by omega) (by omega)
  have s3 : ∀ W, (Instr.slice 9 (.string (str b)) (some (.int .i64 20)) (some (.int .i64 24)) none).run Tryz.prog W = .ok (.string (str (cut b 20 4))) W := fun W => run_cut (P := Tryz.prog) W 9 b 20 24 Tryz.underlying9 (by omega) (by omega) (by omega)
  have s4 : ∀ W, (Instr.slice 9 (.string (str b)) (some (.int .i64 24)) (some (.int .i64 28)) none).run Tryz.prog W = .ok (.string (str (cut b 24 4))) W := fun W => run_cut (P := Tryz.prog) W 9 b 24 28 Tryz.underlying9 (by omega) (by omega) (by omega)
  have s5 : ∀ W, (Instr.slice 9 (.string (str b)) (some (.int .i64 28)) (some (.int .i64 32)) none).run Tryz.prog W = .ok (.string (str (cut b 28 4))) W := fun W => run_cut (P := Tryz.prog) W 9 b 28 32 Tryz.underlying9 (by omega) (by omega) (by omega)
  have C1 := Lib.hid (fun W => refNum (cut b 4 8) W (by rw [cut_length _ _ _ (by omega)]; omega))
  have C2 := Lib.hid (fun W => refNum (cut b 12 8) W (by rw [cut_length _ _ _ (by omega)]; omega))
  have C3 := fun W => refNum (cut b 20 4) W (by rw [cut_length _ _ _ (by omega)]; omega)
  rw [wrap4 _ (by rw [cut_length _ _ _ (by omega)]; omega)] at C3
  have C3 := Lib.hid C3
  have C4 := fun W => refNum (cut b 24 4) W (by rw [cut_length _ _ _ (by omega)]; omega)
  rw [wrap4 _ (by rw [cut_length _ _ _ (by omega)]; omega)] at C4
  have C4 := Lib.hid C4
  have C5 := fun W => refNum (cut b 28 4) W (by rw [cut_length _ _ _ (by omega)]; omega)
  rw [wrap4 _ (by rw [cut_length _ _ _ (by omega)]; omega)] at C5
  have C5 := Lib.hid C5
  obtain ⟨s, hs⟩ : ∃ s, s = parseSup b := ⟨_, rfl⟩
  have hs2 : s = ⟨wrap64 (value (cut b 4 8) : Nat), wrap64 (value (cut b 12 8) : Nat), (value (cut b 20 4) : Nat), (value (cut b 24 4) : Nat), (value (cut b 28 4) : Nat)⟩ := by rw [hs]; rfl
  have hrd : readSup b place = if s.right = true ∧ s.bytes = b ∧ s.gen % 2 = place then some s else none := by rw [hs]; rfl
  clear hs
  generalize cut b 4 8 = x1 at *
  generalize cut b 12 8 = x2 at *
  generalize cut b 20 4 = x3 at *
  generalize cut b 24 4 = x4 at *
  generalize cut b 28 4 = x5 at *
  generalize wrap64 (value x1 : Nat) = G1 at *
  generalize wrap64 (value x2 : Nat) = G2 at *
  generalize ((value x3 : Nat) : Int) = G3 at *
  generalize ((value x4 : Nat) : Int) = G4 at *
  generalize ((value x5 : Nat) : Int) = G5 at *
  have hsv : s.v = .agg #[.int .i64 G1, .int .i64 G2, .int .i64 G3, .int .i64 G4, .int .i64 G5] := by rw [hs2]; rfl
  have hsg : s.gen = G1 := by rw [hs2]
  have CR := fun W => refRight s W
  have CO := fun W h => refOctets s W h
  rw [hsv] at CR CO
  have CR := Lib.hid CR
  have CO := Lib.hid CO
  rw [hsg] at hrd
  have Hrd := Lib.hid hrd
  have Hsv := Lib.hid hsv
  have Hsg := Lib.hid hsg
  clear hs2 hrd hsv hsg hb
  go_enter Tryz.func148, Tryz.ntmps148
  go_wp2_with fail
  have hp0 : Pu w (w.alloc (.cells #[.int .i64 0, .int .i64 0, .int .i64 0, .int .i64 0, .int .i64 0] 82)) := (Fr.refl _ _).alloc _
  have hb0 := heap_alloc_new w (.cells #[.int .i64 0, .int .i64 0, .int .i64 0, .int .i64 0, .int .i64 0] 82)
  generalize w.alloc (.cells #[.int .i64 0, .int .i64 0, .int .i64 0, .int .i64 0, .int .i64 0] 82) = w0 at *
  have Hp0 := Lib.hid hp0
  have Hb0 := Lib.hid hb0
  have hlt0 := blk_lt hb0
  clear hp0 hb0
  go_region_held3 (fun _ => True) (trivial)
    (first
      | (go_at_call 218; (with_reducible refine (C1.out _).mono ?_); rintro e w' ⟨rfl, rfl⟩)
      | (go_at_call 218; (with_reducible refine (C2.out _).mono ?_); rintro e w' ⟨rfl, rfl⟩)
      | (go_at_call 218; (with_reducible refine (C3.out _).mono ?_); rintro e w' ⟨rfl, rfl⟩)
      | (go_at_call 218; (with_reducible refine (C4.out _).mono ?_); rintro e w' ⟨rfl, rfl⟩)
      | (go_at_call 218; (with_reducible refine (C5.out _).mono ?_); rintro e w' ⟨rfl, rfl⟩))
  all_goals go_wp2_with fail
  all_goals
    have hb8 : (w0.alloc (.cells #[.int .i64 G1, .int .i64 G2, .int .i64 G3, .int .i64 G4, .int .i64 G5] 82)).drew.heap[w0.heap.size]? = some (.cells #[.int .i64 G1, .int .i64 G2, .int .i64 G3, .int .i64 G4, .int .i64 G5] 82 (0, 0)) := heap_alloc_new w0 _
    have hp8 : Pu w0 (w0.alloc (.cells #[.int .i64 G1, .int .i64 G2, .int .i64 G3, .int .i64 G4, .int .i64 G5] 82)).drew := ((Fr.refl _ _).alloc _).drew
    generalize (w0.alloc (.cells #[.int .i64 G1, .int .i64 G2, .int .i64 G3, .int .i64 G4, .int .i64 G5] 82)).drew = w8 at *
    refine (CR.out w8).mono ?_
    rintro e w9 ⟨rfl, hp9⟩
    have Hz9 := Lib.hid (((hp8.pu hp9).block _ hlt0 (fun h => h)).trans Hb0.out)
    have Hs9 := Lib.hid ((hp9.block _ (blk_lt hb8) (fun h => h)).trans hb8)
    have Hp9 := Lib.hid (Hp0.out.pu (hp8.pu hp9))
    clear hb8 hp8 hp9
  all_goals
    cases hr : s.right
    · have Hno := Lib.hid (show ¬ (s.right = true ∧ s.bytes = b ∧ G1 % 2 = place) by rw [hr]; simp)
      have Hz := Hz9
      have Hs := Hs9
      have Hp := Hp9
      clear hr
      obtain ⟨z0, z1, z2, z3, z4, f0⟩ := sup_block Hz.out
      have hzl := blk_lt Hz.out
      obtain ⟨y0, y1, y2, y3, y4, -⟩ := sup_block Hs.out
      have hyl := blk_lt Hs.out
      go_wp2
      obtain ⟨wz, hwz⟩ : ∃ wz, wz = ((((w9.setCell ⟨w.heap.size, 0, none⟩ (.int .i64 0)).setCell ⟨w.heap.size, 1, none⟩ (.int .i64 0)).setCell ⟨w.heap.size, 2, none⟩ (.int .i64 0)).setCell ⟨w.heap.size, 3, none⟩ (.int .i64 0)).setCell ⟨w.heap.size, 4, none⟩ (.int .i64 0) := ⟨_, rfl⟩
      rw [← hwz]
      obtain ⟨e0, e1, e2, e3, e4, hfz⟩ := set5 Hz.out hwz
      have hpz := Fr.new Hp.out hfz (Nat.le_refl _)
      clear hwz z0 z1 z2 z3 z4 f0 y0 y1 y2 y3 y4
      have hno : readSup b place = none := by rw [Hrd.out, if_neg]; rintro ⟨h1, h2, h3⟩; exact Hno.out ⟨h1, h2, h3⟩
      rw [hno, show (supOf none).1.v = Sup.none.v from rfl, show (supOf none).2 = false from rfl, show Sup.none.v = .agg #[.int .i64 0, .int .i64 0, .int .i64 0, .int .i64 0, .int .i64 0] from rfl]
      exact bodyPost_ret (v := .tuple #[.agg #[.int .i64 0, .int .i64 0, .int .i64 0, .int .i64 0, .int .i64 0], .bool false]) (by simp [results, Tryz.results148, go_sem, e0, e1, e2, e3, e4]) rfl ⟨rfl, hpz⟩
    · have hrr := (s.right_iff.1 hr).1
      rw [Hsg.out] at hrr
      have hG0 : 0 ≤ G1 := by omega
      have hG9 : G1 ≤ 9223372036854775807 := by omega
      clear hrr
      have CO2 := Lib.hid (fun W => CO.out W hr)
      have Hr := Lib.hid hr
      clear hr
      obtain ⟨z0, z1, z2, z3, z4, f0⟩ := sup_block Hz9.out
      have hzl := blk_lt Hz9.out
      obtain ⟨y0, y1, y2, y3, y4, -⟩ := sup_block Hs9.out
      have hyl := blk_lt Hs9.out
      go_wp2_with fail
      refine (CO2.out _).mono ?_
      rintro e w10 ⟨rfl, hp10⟩
      have Hz := Lib.hid ((hp10.block _ hzl (fun h => h)).trans Hz9.out)
      have Hs := Lib.hid ((hp10.block _ hyl (fun h => h)).trans Hs9.out)
      have Hp := Lib.hid (Hp9.out.pu hp10)
      clear hp10 z0 z1 z2 z3 z4 f0 hzl y0 y1 y2 y3 y4 hyl
      obtain ⟨z0, z1, z2, z3, z4, f0⟩ := sup_block Hz.out
      have hzl := blk_lt Hz.out
      obtain ⟨y0, y1, y2, y3, y4, -⟩ := sup_block Hs.out
      have hyl := blk_lt Hs.out
      generalize s.bytes = sb at *
      by_cases hbb : sb = b
      · have hbe := str_beq sb b
        have hbe : ((str sb).toList == (str b).toList) = true := by rw [hbe]; simpa using hbb
        have hbn : ((str sb).toList != (str b).toList) = false := by rw [bne, hbe]; rfl
        have Hbb := Lib.hid hbb
        clear hbb
        by_cases hpl : G1 % 2 = place
        · have hplB : (G1 % 2 != place) = false := by simpa using hpl
          have Hpl := Lib.hid hpl
          clear hpl
          go_wp2
          obtain ⟨wz, hwz⟩ : ∃ wz, wz = ((((w10.setCell ⟨w.heap.size, 0, none⟩ (.int .i64 G1)).setCell ⟨w.heap.size, 1, none⟩ (.int .i64 G2)).setCell ⟨w.heap.size, 2, none⟩ (.int .i64 G3)).setCell ⟨w.heap.size, 3, none⟩ (.int .i64 G4)).setCell ⟨w.heap.size, 4, none⟩ (.int .i64 G5) := ⟨_, rfl⟩
          rw [← hwz]
          obtain ⟨e0, e1, e2, e3, e4, hfz⟩ := set5 Hz.out hwz
          have hpz := Fr.new Hp.out hfz (Nat.le_refl _)
          clear hwz z0 z1 z2 z3 z4 f0 y0 y1 y2 y3 y4
          have hyes : readSup b place = some s := by rw [Hrd.out, if_pos]; exact ⟨Hr.out, Hbb.out, Hpl.out⟩
          rw [hyes, show (supOf (some s)).1.v = s.v from rfl, show (supOf (some s)).2 = true from rfl, Hsv.out]
          exact bodyPost_ret (v := .tuple #[.agg #[.int .i64 G1, .int .i64 G2, .int .i64 G3, .int .i64 G4, .int .i64 G5], .bool true]) (by simp [results, Tryz.results148, go_sem, e0, e1, e2, e3, e4]) rfl ⟨rfl, hpz⟩
        · have hplB : (G1 % 2 != place) = true := by simpa using hpl
          have Hno := Lib.hid (show ¬ (s.right = true ∧ sb = b ∧ G1 % 2 = place) by rintro ⟨-, -, h⟩; exact hpl h)
          clear hpl
          go_wp2
          obtain ⟨wz, hwz⟩ : ∃ wz, wz = ((((w10.setCell ⟨w.heap.size, 0, none⟩ (.int .i64 0)).setCell ⟨w.heap.size, 1, none⟩ (.int .i64 0)).setCell ⟨w.heap.size, 2, none⟩ (.int .i64 0)).setCell ⟨w.heap.size, 3, none⟩ (.int .i64 0)).setCell ⟨w.heap.size, 4, none⟩ (.int .i64 0) := ⟨_, rfl⟩
          rw [← hwz]
          obtain ⟨e0, e1, e2, e3, e4, hfz⟩ := set5 Hz.out hwz
          have hpz := Fr.new Hp.out hfz (Nat.le_refl _)
          clear hwz z0 z1 z2 z3 z4 f0 y0 y1 y2 y3 y4
          have hno : readSup b place = none := by rw [Hrd.out, if_neg]; rintro ⟨h1, h2, h3⟩; exact Hno.out ⟨h1, h2, h3⟩
          rw [hno, show (supOf none).1.v = Sup.none.v from rfl, show (supOf none).2 = false from rfl, show Sup.none.v = .agg #[.int .i64 0, .int .i64 0, .int .i64 0, .int .i64 0, .int .i64 0] from rfl]
          exact bodyPost_ret (v := .tuple #[.agg #[.int .i64 0, .int .i64 0, .int .i64 0, .int .i64 0, .int .i64 0], .bool false]) (by simp [results, Tryz.results148, go_sem, e0, e1, e2, e3, e4]) rfl ⟨rfl, hpz⟩
      · have hbe := str_beq sb b
        have hbe : ((str sb).toList == (str b).toList) = false := by rw [hbe]; simpa using hbb
        have hbn : ((str sb).toList != (str b).toList) = true := by rw [bne, hbe]; rfl
        have Hno := Lib.hid (show ¬ (s.right = true ∧ sb = b ∧ G1 % 2 = place) by rintro ⟨-, h, -⟩; exact hbb h)
        go_wp2
        obtain ⟨wz, hwz⟩ : ∃ wz, wz = ((((w10.setCell ⟨w.heap.size, 0, none⟩ (.int .i64 0)).setCell ⟨w.heap.size, 1, none⟩ (.int .i64 0)).setCell ⟨w.heap.size, 2, none⟩ (.int .i64 0)).setCell ⟨w.heap.size, 3, none⟩ (.int .i64 0)).setCell ⟨w.heap.size, 4, none⟩ (.int .i64 0) := ⟨_, rfl⟩
        rw [← hwz]
        obtain ⟨e0, e1, e2, e3, e4, hfz⟩ := set5 Hz.out hwz
        have hpz := Fr.new Hp.out hfz (Nat.le_refl _)
        clear hwz z0 z1 z2 z3 z4 f0 y0 y1 y2 y3 y4
        have hno : readSup b place = none := by rw [Hrd.out, if_neg]; rintro ⟨h1, h2, h3⟩; exact Hno.out ⟨h1, h2, h3⟩
        rw [hno, show (supOf none).1.v = Sup.none.v from rfl, show (supOf none).2 = false from rfl, show Sup.none.v = .agg #[.int .i64 0, .int .i64 0, .int .i64 0, .int .i64 0, .int .i64 0] from rfl]
        exact bodyPost_ret (v := .tuple #[.agg #[.int .i64 0, .int .i64 0, .int .i64 0, .int .i64 0, .int .i64 0], .bool false]) (by simp [results, Tryz.results148, go_sem, e0, e1, e2, e3, e4]) rfl ⟨rfl, hpz⟩
end Go.Proofs.YtaendhbiehknlaaGreatDoor
