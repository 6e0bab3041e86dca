/- What is proved here, of the given program: The document's superblocks (ref14): Newest, Find, Store. -/
import Derived.Test.YtaendhbiehknlaaGreatDoorU39
import Derived.Test.YtaendhbiehknlaaGreatDoorU33
set_option linter.unusedVariables false
set_option linter.unusedSimpArgs false
set_option linter.constructorNameAsVariable false
namespace Go.Proofs.YtaendhbiehknlaaGreatDoor
open Go.RowKit Go.Shelf Go.Proofs

set_option maxRecDepth 100000 in
set_option maxHeartbeats 1000000 in
theorem refNewest (b : Bytes) (w : World) (hb : b.length = 256) :
    Calls Tryz.prog 89 #[.string (str b)] w fun e w' => e = .returned (.tuple #[(supOf (newestSup b)).1.v, .bool (supOf (newestSup b)).2]) ∧ Pu w w' := by
  have C1 := Lib.hid (fun (W : World) => refRead14 (b.take 128) 0 W (by rw [List.length_take]; omega))
  have C2 := Lib.hid (fun (W : World) => refRead14 (cut b 128 128) 1 W (by rw [cut, List.length_take, List.length_drop]; omega))
  have s1 := fun W => run_cut_head (P := Tryz.prog) W 9 b 128 Tryz.underlying9 (by omega) (by omega)
  have s2 := fun W => run_cut (P := Tryz.prog) W 9 b 128 256 Tryz.underlying9 (by omega) (by omega) (by omega)
  have s1 : ∀ W, (Instr.slice 9 (.string (str b)) none (some (.int .i64 128)) none).run Tryz.prog W = .ok (.string (str (b.take 128))) W := s1
  have s2 : ∀ W, (Instr.slice 9 (.string (str b)) (some (.int .i64 128)) (some (.int .i64 256)) none).run Tryz.prog W = .ok (.string (str (cut b 128 128))) W := s2
  have hsz : (str b).size = 256 := by rw [str_size]; exact hb
  have hn : newestSup b = newer (readSup (cut b 128 128) 1) (readSup (b.take 128) 0) := by unfold newestSup; rfl
  generalize readSup (b.take 128) 0 = r0 at *
  generalize readSup (cut b 128 128) 1 = r1 at *
  have hn := congrArg supOf hn
  rw [newer_spec] at hn
  have Hn := Lib.hid hn
  clear hn hb
  go_enter Tryz.func89, Tryz.ntmps89
  go_wp2_with fail
  have hp0 : Pu w (w.alloc (.cells #[.int .i64 0, .int .i64 0, .int .i64 0, .int .i64 0, .int .i64 0] 82)) := (Fr.refl _ _).alloc _
  have hb0 := heap_alloc_new w (.cells #[.int .i64 0, .int .i64 0, .int .i64 0, .int .i64 0, .int .i64 0] 82)
  generalize w.alloc (.cells #[.int .i64 0, .int .i64 0, .int .i64 0, .int .i64 0, .int .i64 0] 82) = w0 at *
  refine (C1.out w0).mono ?_
  rintro e w1 ⟨rfl, hp1⟩
  have Hb1 := Lib.hid ((hp1.block _ (blk_lt hb0) (fun h => h)).trans hb0)
  have Hp1 := Lib.hid (hp0.pu hp1)
  clear hp0 hb0 hp1 C1 s1
  have hs0 := sup_shape (supOf r0).1
  generalize supOf r0 = q0 at *
  obtain ⟨⟨g0, b0, s0, n0, y0⟩, k0⟩ := q0
  dsimp only at hs0
  rw [hs0]
  clear hs0
  go_wp2_with fail
  have hb4 := heap_alloc_new w1 (.cells #[.int .i64 g0, .int .i64 b0, .int .i64 s0, .int .i64 n0, .int .i64 y0] 82)
  have hp4 : Pu w1 (w1.alloc (.cells #[.int .i64 g0, .int .i64 b0, .int .i64 s0, .int .i64 n0, .int .i64 y0] 82)) := (Fr.refl _ _).alloc _
  generalize w1.alloc (.cells #[.int .i64 g0, .int .i64 b0, .int .i64 s0, .int .i64 n0, .int .i64 y0] 82) = w2 at *
  refine (C2.out w2).mono ?_
  rintro e w3 ⟨rfl, hp3⟩
  have Hb3 := Lib.hid ((hp3.block _ (blk_lt hb4) (fun h => h)).trans hb4)
  have Hb1' := Lib.hid (((hp4.pu hp3).block _ (blk_lt Hb1.out) (fun h => h)).trans Hb1.out)
  have Hp3 := Lib.hid ((Hp1.out.pu hp4).pu hp3)
  clear hb4 hp4 hp3 C2 s2
  have ht0 := sup_shape (supOf r1).1
  generalize supOf r1 = q1 at *
  obtain ⟨⟨g1, b1, s1, n1, y1⟩, k1⟩ := q1
  dsimp only at ht0
  rw [ht0]
  clear ht0
  have hB := blk_lt Hb3.out
  have hA := blk_lt Hb1'.out
  have hsz1 := Hp1.out.size
  obtain ⟨v0, v1, v2, v3, v4, -⟩ := sup_block Hb3.out
  obtain ⟨t0, t1, t2, t3, t4, f0⟩ := sup_block Hb1'.out
  dsimp only at Hn
  cases k1
  · have hfin : supOf (newestSup b) = (⟨g0, b0, s0, n0, y0⟩, k0) := by rw [Hn.out]; simp
    have Hfin := Lib.hid hfin
    clear hfin
    cases k0
    all_goals
      go_wp2
      obtain ⟨wz, hwz⟩ : ∃ wz, wz = ((((w3.setCell ⟨w.heap.size, 0, none⟩ (.int .i64 g0)).setCell ⟨w.heap.size, 1, none⟩ (.int .i64 b0)).setCell ⟨w.heap.size, 2, none⟩ (.int .i64 s0)).setCell ⟨w.heap.size, 3, none⟩ (.int .i64 n0)).setCell ⟨w.heap.size, 4, none⟩ (.int .i64 y0) := ⟨_, rfl⟩
      rw [← hwz]
      obtain ⟨x0, x1, x2, x3, x4, hfz⟩ := set5 Hb1'.out hwz
      have hlz := World.block_lt_of_cell? wz _ x0
      have hlz : w.heap.size < wz.heap.size := hlz
      have hpz : Pu w (wz.alloc (.cells #[.int .i64 g1, .int .i64 b1, .int .i64 s1, .int .i64 n1, .int .i64 y1] 82)) := (Fr.new Hp3.out hfz (Nat.le_refl _)).alloc _
      clear hwz t0 t1 t2 t3 t4 v0 v1 v2 v3 v4 f0
      rw [Hfin.out]
      first
        | exact bodyPost_ret (v := .tuple #[.agg #[.int .i64 g0, .int .i64 b0, .int .i64 s0, .int .i64 n0, .int .i64 y0], .bool true]) (by simp [results, Tryz.results89, go_sem, x0, x1, x2, x3, x4, hlz]) rfl ⟨rfl, hpz⟩
        | exact bodyPost_ret (v := .tuple #[.agg #[.int .i64 g0, .int .i64 b0, .int .i64 s0, .int .i64 n0, .int .i64 y0], .bool false]) (by simp [results, Tryz.results89, go_sem, x0, x1, x2, x3, x4, hlz]) rfl ⟨rfl, hpz⟩
  · cases k0
    · have hfin : supOf (newestSup b) = (⟨g1, b1, s1, n1, y1⟩, true) := by rw [Hn.out]; simp
      have Hfin := Lib.hid hfin
      clear hfin
      go_wp2
      obtain ⟨wz, hwz⟩ : ∃ wz, wz = ((((w3.setCell ⟨w.heap.size, 0, none⟩ (.int .i64 g1)).setCell ⟨w.heap.size, 1, none⟩ (.int .i64 b1)).setCell ⟨w.heap.size, 2, none⟩ (.int .i64 s1)).setCell ⟨w.heap.size, 3, none⟩ (.int .i64 n1)).setCell ⟨w.heap.size, 4, none⟩ (.int .i64 y1) := ⟨_, rfl⟩
      rw [← hwz]
      obtain ⟨x0, x1, x2, x3, x4, hfz⟩ := set5 Hb1'.out hwz
      have hlz := World.block_lt_of_cell? wz _ x0
      have hlz : w.heap.size < wz.heap.size := hlz
      have hpz : Pu w (wz.alloc (.cells #[.int .i64 g1, .int .i64 b1, .int .i64 s1, .int .i64 n1, .int .i64 y1] 82)) := (Fr.new Hp3.out hfz (Nat.le_refl _)).alloc _
      clear hwz t0 t1 t2 t3 t4 v0 v1 v2 v3 v4 f0
      rw [Hfin.out]
      exact bodyPost_ret (v := .tuple #[.agg #[.int .i64 g1, .int .i64 b1, .int .i64 s1, .int .i64 n1, .int .i64 y1], .bool true]) (by simp [results, Tryz.results89, go_sem, x0, x1, x2, x3, x4, hlz]) rfl ⟨rfl, hpz⟩
    · by_cases hlt : g0 < g1
      · have hfin : supOf (newestSup b) = (⟨g1, b1, s1, n1, y1⟩, true) := by rw [Hn.out]; simp [hlt]
        have Hfin := Lib.hid hfin
        clear hfin
        go_wp2
        obtain ⟨wz, hwz⟩ : ∃ wz, wz = ((((w3.setCell ⟨w.heap.size, 0, none⟩ (.int .i64 g1)).setCell ⟨w.heap.size, 1, none⟩ (.int .i64 b1)).setCell ⟨w.heap.size, 2, none⟩ (.int .i64 s1)).setCell ⟨w.heap.size, 3, none⟩ (.int .i64 n1)).setCell ⟨w.heap.size, 4, none⟩ (.int .i64 y1) := ⟨_, rfl⟩
        rw [← hwz]
        obtain ⟨x0, x1, x2, x3, x4, hfz⟩ := set5 Hb1'.out hwz
        have hlz := World.block_lt_of_cell? wz _ x0
        have hlz : w.heap.size < wz.heap.size := hlz
        have hpz : Pu w (wz.alloc (.cells #[.int .i64 g1, .int .i64 b1, .int .i64 s1, .int .i64 n1, .int .i64 y1] 82)) := (Fr.new Hp3.out hfz (Nat.le_refl _)).alloc _
        clear hwz t0 t1 t2 t3 t4 v0 v1 v2 v3 v4 f0
        rw [Hfin.out]
        exact bodyPost_ret (v := .tuple #[.agg #[.int .i64 g1, .int .i64 b1, .int .i64 s1, .int .i64 n1, .int .i64 y1], .bool true]) (by simp [results, Tryz.results89, go_sem, x0, x1, x2, x3, x4, hlz]) rfl ⟨rfl, hpz⟩
      · have hfin : supOf (newestSup b) = (⟨g0, b0, s0, n0, y0⟩, true) := by rw [Hn.out]; simp [hlt]
        have Hfin := Lib.hid hfin
        clear hfin
        go_wp2
        obtain ⟨wz, hwz⟩ : ∃ wz, wz = ((((w3.setCell ⟨w.heap.size, 0, none⟩ (.int .i64 g0)).setCell ⟨w.heap.size, 1, none⟩ (.int .i64 b0)).setCell ⟨w.heap.size, 2, none⟩ (.int .i64 s0)).setCell ⟨w.heap.size, 3, none⟩ (.int .i64 n0)).setCell ⟨w.heap.size, 4, none⟩ (.int .i64 y0) := ⟨_, rfl⟩
        rw [← hwz]
        obtain ⟨x0, x1, x2, x3, x4, hfz⟩ := set5 Hb1'.out hwz
        have hlz := World.block_lt_of_cell? wz _ x0
        have hlz : w.heap.size < wz.heap.size := hlz
        have hpz : Pu w (wz.alloc (.cells #[.int .i64 g1, .int .i64 b1, .int .i64 s1, .int .i64 n1, .int .i64 y1] 82)) := (Fr.new Hp3.out hfz (Nat.le_refl _)).alloc _
        clear hwz t0 t1 t2 t3 t4 v0 v1 v2 v3 v4 f0
        rw [Hfin.out]
        exact bodyPost_ret (v := .tuple #[.agg #[.int .i64 g0, .int .i64 b0, .int .i64 s0, .int .i64 n0, .int .i64 y0], .bool true]) (by simp [results, Tryz.results89, go_sem, x0, x1, x2, x3, x4, hlz]) rfl ⟨rfl, hpz⟩

section
variable {w w1 : World} {g : Nat} {img : Bytes}
theorem refReadHead (h : RefAt w g img []) (hl : img.length ≤ 17592186044416) (ht : 2 ≤ img.length / 128) : Calls Tryz.prog 88 #[.pointer (some ⟨g, 0, none⟩), .int .i64 0, .int .i64 2] w fun e w' => e = .returned (.tuple #[.string (str (img.take 256)), .int .i64 0]) ∧ w = w' :=
  refRead h (fun x hx => by simp at hx) hl 0 2 (by omega) (by omega) ((thereB_iff _ _ _).2 (by omega))
theorem refReadHeadNo (h : RefAt w g img []) (hl : img.length ≤ 17592186044416) (ht : img.length / 128 < 2) : Calls Tryz.prog 88 #[.pointer (some ⟨g, 0, none⟩), .int .i64 0, .int .i64 2] w fun e w' => e = .returned (.tuple #[.string ⟨#[]⟩, .int .i64 20]) ∧ w = w' :=
  refReadNo h hl 0 2 (by omega) (by
    cases hq : thereB (img.length / 128) 0 2
    · rfl
    · have := (thereB_iff _ _ _).1 hq; omega)
set_option maxRecDepth 100000 in
set_option maxHeartbeats 1000000 in
theorem refFindYes (s : Sup) (h : RefAt w g img []) (hl : img.length ≤ 17592186044416) (ht : 2 ≤ img.length / 128) (hs : newestSup (img.take 256) = some s) :
    Calls Tryz.prog 44 #[.pointer (some ⟨g, 0, none⟩)] w fun e w' => e = .returned (.tuple #[s.v, .int .i64 0]) ∧ Pu w w' := by
  have C1 := Lib.hid (fun (W : World) (hp : Pu w W) => refReadHead (h.pu hp) hl ht)
  have hlen : (img.take 256).length = 256 := by rw [List.length_take]; omega
  have C2 := Lib.hid (fun (W : World) => refNewest (img.take 256) W hlen)
  rw [hs, show supOf (some s) = (s, true) from rfl, sup_shape] at C2
  clear h ht hs hlen
  obtain ⟨a, b, c, d, e⟩ := s
  unfold Sup.v
  dsimp only at C2 ⊢
  go_enter Tryz.func44, Tryz.ntmps44
  go_wp2_with fail
  have hp0 : Pu w (w.alloc (.cells #[.int .i64 0, .int .i64 0, .int .i64 0, .int .i64 0, .int .i64 0] 82)) := (Fr.refl _ _).alloc _
  have hb0 := heap_alloc_new w (.cells #[.int .i64 0, .int .i64 0, .int .i64 0, .int .i64 0, .int .i64 0] 82)
  generalize w.alloc (.cells #[.int .i64 0, .int .i64 0, .int .i64 0, .int .i64 0, .int .i64 0] 82) = w0 at *
  refine (C1.out w0 hp0).mono ?_
  rintro e w' ⟨rfl, rfl⟩
  have Hb0 := Lib.hid hb0
  have Hp0 := Lib.hid hp0
  clear hp0 hb0 C1
  go_wp2_with fail
  refine (C2.out _).mono ?_
  rintro e' w2 ⟨rfl, hp2⟩
  have Hb2 := Lib.hid ((hp2.block _ (blk_lt Hb0.out) (fun h => h)).trans Hb0.out)
  have Hp2 := Lib.hid (Hp0.out.pu hp2)
  clear hp2
  obtain ⟨t0, t1, t2, t3, t4, f0⟩ := sup_block Hb2.out
  have hA := blk_lt Hb2.out
  go_wp2_with fail
  obtain ⟨wz, hwz⟩ : ∃ wz, wz = ((((w2.setCell ⟨w.heap.size, 0, none⟩ (.int .i64 a)).setCell ⟨w.heap.size, 1, none⟩ (.int .i64 b)).setCell ⟨w.heap.size, 2, none⟩ (.int .i64 c)).setCell ⟨w.heap.size, 3, none⟩ (.int .i64 d)).setCell ⟨w.heap.size, 4, none⟩ (.int .i64 e) := ⟨_, rfl⟩
  rw [← hwz]
  obtain ⟨x0, x1, x2, x3, x4, hfz⟩ := set5 Hb2.out hwz
  have hlz : w.heap.size < wz.heap.size := World.block_lt_of_cell? wz _ x0
  have hpz : Pu w (wz.alloc (.cells #[.int .i64 a, .int .i64 b, .int .i64 c, .int .i64 d, .int .i64 e] 82)) := (Fr.new Hp2.out hfz (Nat.le_refl _)).alloc _
  clear hwz t0 t1 t2 t3 t4 f0
  exact bodyPost_ret (v := .tuple #[.agg #[.int .i64 a, .int .i64 b, .int .i64 c, .int .i64 d, .int .i64 e], .int .i64 0]) (by simp [results, Tryz.results44, go_sem, x0, x1, x2, x3, x4, hlz]) rfl ⟨rfl, hpz⟩
set_option maxRecDepth 100000 in
set_option maxHeartbeats 1000000 in
theorem refFindNone (h : RefAt w g img []) (hl : img.length ≤ 17592186044416) (ht : 2 ≤ img.length / 128) (hs : newestSup (img.take 256) = none) :
    Calls Tryz.prog 44 #[.pointer (some ⟨g, 0, none⟩)] w fun e w' => e = .returned (.tuple #[Sup0, .int .i64 50]) ∧ Pu w w' := by
  have C1 := Lib.hid (fun (W : World) (hp : Pu w W) => refReadHead (h.pu hp) hl ht)
  have hlen : (img.take 256).length = 256 := by rw [List.length_take]; omega
  have C2 := Lib.hid (fun (W : World) => refNewest (img.take 256) W hlen)
  rw [hs, show supOf none = (Sup.none, false) from rfl, show Sup.none.v = .agg #[.int .i64 0, .int .i64 0, .int .i64 0, .int .i64 0, .int .i64 0] from rfl] at C2
  clear h ht hs hlen
  unfold Sup0
  go_enter Tryz.func44, Tryz.ntmps44
  go_wp2_with fail
  have hp0 : Pu w (w.alloc (.cells #[.int .i64 0, .int .i64 0, .int .i64 0, .int .i64 0, .int .i64 0] 82)) := (Fr.refl _ _).alloc _
  have hb0 := heap_alloc_new w (.cells #[.int .i64 0, .int .i64 0, .int .i64 0, .int .i64 0, .int .i64 0] 82)
  generalize w.alloc (.cells #[.int .i64 0, .int .i64 0, .int .i64 0, .int .i64 0, .int .i64 0] 82) = w0 at *
  refine (C1.out w0 hp0).mono ?_
  rintro e w' ⟨rfl, rfl⟩
  have Hb0 := Lib.hid hb0
  have Hp0 := Lib.hid hp0
  clear hp0 hb0 C1
  go_wp2_with fail
  refine (C2.out _).mono ?_
  rintro e' w2 ⟨rfl, hp2⟩
  have Hb2 := Lib.hid ((hp2.block _ (blk_lt Hb0.out) (fun h => h)).trans Hb0.out)
  have Hp2 := Lib.hid (Hp0.out.pu hp2)
  clear hp2
  obtain ⟨t0, t1, t2, t3, t4, f0⟩ := sup_block Hb2.out
  have hA := blk_lt Hb2.out
  go_wp2_with fail
  obtain ⟨wz, hwz⟩ : ∃ wz, wz = ((((w2.setCell ⟨w.heap.size, 0, none⟩ (.int .i64 0)).setCell ⟨w.heap.size, 1, none⟩ (.int .i64 0)).setCell ⟨w.heap.size, 2, none⟩ (.int .i64 0)).setCell ⟨w.heap.size, 3, none⟩ (.int .i64 0)).setCell ⟨w.heap.size, 4, none⟩ (.int .i64 0) := ⟨_, rfl⟩
  rw [← hwz]
  obtain ⟨x0, x1, x2, x3, x4, hfz⟩ := set5 Hb2.out hwz
  have hlz : w.heap.size < wz.heap.size := World.block_lt_of_cell? wz _ x0
  have hpz : Pu w (wz.alloc (.cells #[.int .i64 0, .int .i64 0, .int .i64 0, .int .i64 0, .int .i64 0] 82)) := (Fr.new Hp2.out hfz (Nat.le_refl _)).alloc _
  clear hwz t0 t1 t2 t3 t4 f0
  exact bodyPost_ret (v := .tuple #[.agg #[.int .i64 0, .int .i64 0, .int .i64 0, .int .i64 0, .int .i64 0], .int .i64 50]) (by simp [results, Tryz.results44, go_sem, x0, x1, x2, x3, x4, hlz]) rfl ⟨rfl, hpz⟩
set_option maxRecDepth 100000 in
set_option maxHeartbeats 1000000 in
theorem refFindShort (h : RefAt w g img []) (hl : img.length ≤ 17592186044416) (ht : img.length / 128 < 2) :
    Calls Tryz.prog 44 #[.pointer (some ⟨g, 0, none⟩)] w fun e w' => e = .returned (.tuple #[Sup0, .int .i64 20]) ∧ Pu w w' := by
  have C1 := Lib.hid (fun (W : World) (hp : Pu w W) => refReadHeadNo (h.pu hp) hl ht)
  clear h ht
  unfold Sup0
  go_enter Tryz.func44, Tryz.ntmps44
  go_wp2_with fail
  have hp0 : Pu w (w.alloc (.cells #[.int .i64 0, .int .i64 0, .int .i64 0, .int .i64 0, .int .i64 0] 82)) := (Fr.refl _ _).alloc _
  have hb0 := heap_alloc_new w (.cells #[.int .i64 0, .int .i64 0, .int .i64 0, .int .i64 0, .int .i64 0] 82)
  generalize w.alloc (.cells #[.int .i64 0, .int .i64 0, .int .i64 0, .int .i64 0, .int .i64 0] 82) = w2 at *
  refine (C1.out w2 hp0).mono ?_
  rintro e w' ⟨rfl, rfl⟩
  have Hb2 := Lib.hid hb0
  have Hp2 := Lib.hid hp0
  clear hp0 hb0 C1
  obtain ⟨t0, t1, t2, t3, t4, f0⟩ := sup_block Hb2.out
  have hA := blk_lt Hb2.out
  go_wp2_with fail
  obtain ⟨wz, hwz⟩ : ∃ wz, wz = ((((w2.setCell ⟨w.heap.size, 0, none⟩ (.int .i64 0)).setCell ⟨w.heap.size, 1, none⟩ (.int .i64 0)).setCell ⟨w.heap.size, 2, none⟩ (.int .i64 0)).setCell ⟨w.heap.size, 3, none⟩ (.int .i64 0)).setCell ⟨w.heap.size, 4, none⟩ (.int .i64 0) := ⟨_, rfl⟩
  rw [← hwz]
  obtain ⟨x0, x1, x2, x3, x4, hfz⟩ := set5 Hb2.out hwz
  have hlz : w.heap.size < wz.heap.size := World.block_lt_of_cell? wz _ x0
  have hpz : Pu w wz := Fr.new Hp2.out hfz (Nat.le_refl _)
  clear hwz t0 t1 t2 t3 t4 f0
  exact bodyPost_ret (v := .tuple #[.agg #[.int .i64 0, .int .i64 0, .int .i64 0, .int .i64 0, .int .i64 0], .int .i64 20]) (by simp [results, Tryz.results44, go_sem, x0, x1, x2, x3, x4, hlz]) rfl ⟨rfl, hpz⟩
end
end Go.Proofs.YtaendhbiehknlaaGreatDoor
