/- What is proved here, of the given program: The document's keys and segments over an empty region: zero, Octets, read, Open, Buckets; Zero, Head, Parse. The document's keys (ref16): Open of an empty region, Buckets. -/
import Derived.Test.YtaendhbiehknlaaGreatDoorU32
import Derived.Test.YtaendhbiehknlaaGreatDoorU35
import Derived.Test.YtaendhbiehknlaaGreatDoorU37
set_option linter.unusedVariables false
set_option linter.unusedSimpArgs false
set_option linter.constructorNameAsVariable false
namespace Go.Proofs.YtaendhbiehknlaaGreatDoor
open Go.RowKit Go.Shelf Go.Proofs

theorem set3c {W : World} {g : Nat} {a b c : Value} {t : TypeId} (x y z : Value) (h : W.heap[g]? = some (.cells #[a, b, c] t (0, 0))) : (((W.setCell ⟨g, 0, none⟩ x).setCell ⟨g, 1, none⟩ y).setCell ⟨g, 2, none⟩ z).heap[g]? = some (.cells #[x, y, z] t (0, 0)) := by
  simp only [World.setCell, Array.getElem?_modify, if_pos, h, Option.map_some]
  rfl
theorem refZero16 (w : World) : Calls Tryz.prog 94 #[] w fun e w' => e = .returned (.string (str (zeros 128))) ∧ Pu w w' := by
  have hmk : ∀ W, (Instr.makeSlice 23 (.int .i64 128) (.int .i64 128)).run Tryz.prog W = .ok (.slice (some ⟨W.heap.size, 0, none⟩) 128 128) (W.alloc (.cells (zrow 128) 5)) := run_zrow 128 (by omega)
  have hzs := run_zstr 128 (by omega)
  go_enter Tryz.func94, Tryz.ntmps94
  go_wp2
  go_ret
  exact ⟨rfl, (Fr.refl _ _).alloc _⟩
theorem refZero12 (w : World) : Calls Tryz.prog 96 #[] w fun e w' => e = .returned (.string (str (zeros 32))) ∧ Pu w w' := by
  have hmk : ∀ W, (Instr.makeSlice 23 (.int .i64 32) (.int .i64 32)).run Tryz.prog W = .ok (.slice (some ⟨W.heap.size, 0, none⟩) 32 32) (W.alloc (.cells (zrow 32) 5)) := run_zrow 32 (by omega)
  have hzs := run_zstr 32 (by omega)
  go_enter Tryz.func96, Tryz.ntmps96
  go_wp2
  go_ret
  exact ⟨rfl, (Fr.refl _ _).alloc _⟩
/-- A text that begins so is no text of noughts. -/
theorem sector_ne (c : UInt8) (r : Bytes) (hc : c ≠ 0) (hl : (c :: r).length ≤ 128) : (sector (c :: r) == zeros 128) = false := by
  rw [beq_eq_false_iff_ne]
  intro h
  have h1 : (sector (c :: r)).head? = some c := rfl
  rw [h] at h1
  exact hc (by simpa [zeros] using h1.symm)
def engkT : Bytes := [101, 110, 103, 107]
def engrT : Bytes := [101, 110, 103, 114]
def keyT : Bytes := engkT ++ number 0 8 ++ zeros 32
theorem keyT_length : keyT.length = 44 := by simp [keyT, engkT, number_length, zeros_length]
set_option maxRecDepth 100000 in
set_option maxHeartbeats 1000000 in
theorem refKeyOctets (w : World) : Calls Tryz.prog 151 #[.int .i64 0, .string (str (zeros 32))] w fun e w' => ∃ x, e = .returned (.string (str x)) ∧ (x == zeros 128) = false ∧ Pu w w' := by
  have C1 := Lib.hid (fun W => refNumber8 0 W (Lib.hid (by decide)))
  have C2 := Lib.hid (fun W => refWith keyT W (by rw [keyT_length]; omega))
  have l1 := number_length 0 8
  have l2 := zeros_length 32
  have hk : keyT = engkT ++ number 0 8 ++ zeros 32 := rfl
  have hx : (crcWith keyT).length = 48 := by rw [crcWith_length, keyT_length]
  have hse := sector_eq (crcWith keyT) (by omega)
  rw [hx] at hse
  have hne : (sector (crcWith keyT) == zeros 128) = false := sector_ne 101 ([110, 103, 107] ++ number 0 8 ++ zeros 32 ++ number (crcOf keyT) 4) (by decide) (by simp [number_length, zeros_length])
  rw [hse] at hne
  have Hne := Lib.hid hne
  have Hx := Lib.hid hx
  generalize crcWith keyT = cw at *
  generalize keyT = kt at *
  generalize number 0 8 = n1 at *
  have a1 := fun W => run_add_str (P := Tryz.prog) W engkT n1 (by rw [l1]; decide)
  have a1 : ∀ W, (Op.stringOp .add ⟨#[101, 110, 103, 107]⟩ (str n1)).run Tryz.prog W = .ok (.string (str (engkT ++ n1))) W := a1
  have a2 := fun W => run_add_str (P := Tryz.prog) W (engkT ++ n1) (zeros 32) (by rw [List.length_append, l1, l2]; decide)
  rw [← hk] at a2
  clear hk l1 l2 hse hne hx
  go_enter Tryz.func151, Tryz.ntmps151
  go_wp2_with fail
  refine (C1.out _).mono ?_
  rintro e w1 ⟨rfl, hp1⟩
  have Hp1 := Lib.hid hp1
  clear hp1
  go_wp2_with fail
  refine (C2.out _).mono ?_
  rintro e w2 ⟨rfl, hp2⟩
  have Hp2 := Lib.hid (Hp1.out.pu hp2)
  clear hp2 a1 a2
  have hsz : (str cw).size = 48 := by rw [str_size]; exact Hx.out
  have hadd := fun W => run_add_str (P := Tryz.prog) W cw (zeros 80) (by rw [Hx.out, zeros_length]; omega)
  have hmk : ∀ W, (Instr.makeSlice 23 (.int .i64 80) (.int .i64 80)).run Tryz.prog W = .ok (.slice (some ⟨W.heap.size, 0, none⟩) 80 80) (W.alloc (.cells (zrow 80) 5)) := run_zrow 80 (by omega)
  have hzs := run_zstr 80 (by omega)
  go_wp2
  go_ret
  exact ⟨_, rfl, Hne.out, Hp2.out.alloc _⟩
set_option maxRecDepth 100000 in
theorem refKeyRight (w : World) : Calls Tryz.prog 150 #[.int .i64 0, .string (str (zeros 32))] w fun e w' => e = .returned (.bool true) ∧ w = w' := by
  have hsz : (str (zeros 32)).size = 32 := by rw [str_size, zeros_length]
  go_enter Tryz.func150, Tryz.ntmps150
  go_wp2
  go_ret
  exact ⟨rfl, rfl⟩
set_option maxRecDepth 100000 in
set_option maxHeartbeats 1000000 in
theorem refKeyRead (w : World) : Calls Tryz.prog 90 #[.string (str (zeros 128))] w fun e w' => e = .returned (.agg #[.bool false, .int .i64 0, .string ⟨#[]⟩]) ∧ Pu w w' := by
  have s1 : ∀ W, (Instr.slice 9 (.string (str (zeros 128))) (some (.int .i64 4)) (some (.int .i64 12)) none).run Tryz.prog W = .ok (.string (str (cut (zeros 128) 4 8))) W := fun W => run_cut (P := Tryz.prog) W 9 (zeros 128) 4 12 Tryz.underlying9 (by omega) (by omega) (by rw [zeros_length]; omega)
  have s2 : ∀ W, (Instr.slice 9 (.string (str (zeros 128))) (some (.int .i64 12)) (some (.int .i64 44)) none).run Tryz.prog W = .ok (.string (str (cut (zeros 128) 12 32))) W := fun W => run_cut (P := Tryz.prog) W 9 (zeros 128) 12 44 Tryz.underlying9 (by omega) (by omega) (by rw [zeros_length]; omega)
  rw [cut_zeros 128 4 8 (by omega)] at s1
  rw [cut_zeros 128 12 32 (by omega)] at s2
  have C1 := fun W => refValue (str (zeros 8)) W (by rw [str_size, zeros_length]; omega)
  rw [str_data, value_zeros] at C1
  have C1 : ∀ W, Calls Tryz.prog 149 #[.string (str (zeros 8))] W fun e w' => e = .returned (.int .u64 0) ∧ W = w' := C1
  have C1 := Lib.hid C1
  go_enter Tryz.func90, Tryz.ntmps90
  go_wp2_with fail
  have hp0 : Pu w (w.alloc (.cells #[.bool false, .int .i64 0, .string ⟨#[]⟩] 200)) := (Fr.refl _ _).alloc _
  have hb0 := heap_alloc_new w (.cells #[.bool false, .int .i64 0, .string ⟨#[]⟩] 200)
  generalize w.alloc (.cells #[.bool false, .int .i64 0, .string ⟨#[]⟩] 200) = w0 at *
  refine (C1.out _).mono ?_
  rintro e w' ⟨rfl, rfl⟩
  go_wp2_with fail
  refine (refKeyRight _).mono ?_
  rintro e w' ⟨rfl, rfl⟩
  go_wp2_with fail
  refine (refKeyOctets _).mono ?_
  rintro e w1 ⟨x, rfl, hx, hp1⟩
  have hxn : ¬ x = zeros 128 := by simpa using hx
  have hbe : ((str x).toList == (str (zeros 128)).toList) = false := by rw [str_beq]; exact hx
  have hz := (hp1.block _ (blk_lt hb0) (fun h => h)).trans hb0
  have Hz := Lib.hid hz
  have Hp1 := Lib.hid (hp0.pu hp1)
  obtain ⟨t0, t1, t2, tf⟩ := block3 hz
  have hzl := blk_lt hz
  clear hp0 hb0 hp1 hz s1 s2 hx
  generalize zeros 128 = zz at *
  go_wp2
  have hz2 := set3c (.bool false) (.int .i64 0) (.string ⟨#[]⟩) Hz.out
  have hf2 : Fr (At w.heap.size) w1 (((w1.setCell ⟨w.heap.size, 0, none⟩ (.bool false)).setCell ⟨w.heap.size, 1, none⟩ (.int .i64 0)).setCell ⟨w.heap.size, 2, none⟩ (.string ⟨#[]⟩)) := (((Fr.refl (At w.heap.size) w1).set ⟨w.heap.size, 0, none⟩ _ (fun _ => rfl)).set ⟨w.heap.size, 1, none⟩ _ (fun _ => rfl)).set ⟨w.heap.size, 2, none⟩ _ (fun _ => rfl)
  generalize ((w1.setCell ⟨w.heap.size, 0, none⟩ (.bool false)).setCell ⟨w.heap.size, 1, none⟩ (.int .i64 0)).setCell ⟨w.heap.size, 2, none⟩ (.string ⟨#[]⟩) = w2 at *
  obtain ⟨e0, e1, e2, ef⟩ := block3 hz2
  have hpz := Fr.new Hp1.out hf2 (Nat.le_refl _)
  clear t0 t1 t2 tf hz2 hf2 ef
  exact bodyPost_ret (v := .agg #[.bool false, .int .i64 0, .string ⟨#[]⟩]) (by simp [results, Tryz.results90, go_sem, e0, e1, e2]) rfl ⟨rfl, hpz⟩
end Go.Proofs.YtaendhbiehknlaaGreatDoor

namespace Go.Proofs.YtaendhbiehknlaaGreatDoor
open Go.RowKit Go.Shelf Go.Proofs

theorem infoKey : (Tryz.prog.info? 200).map (fun i => (i.zero, i.size, i.bytes)) = some (some (.agg #[.bool false, .int .i64 0, .string ⟨#[]⟩]), 3, 32) := by kernel_rfl
/-- A table that keeps no key. -/
def TabR (w : World) (g n : Nat) : Prop := ∃ d f dd at' A c xs, w.heap[g]? = some (.cells #[d, f, .slice A n c, dd, at'] 198 (0, 0)) ∧ w.ownsRow 0 200 3 (.slice A n c) n xs ∧ ∀ j, j < n → xs[3 * j]? = some (.bool false)
theorem TabR.lt {w : World} {g n : Nat} (h : TabR w g n) : g < w.heap.size := by
  obtain ⟨_, _, _, _, _, _, _, h1, _⟩ := h
  exact blk_lt h1
theorem TabR.pu {w w1 : World} {g n : Nat} (h : TabR w g n) (hp : Pu w w1) : TabR w1 g n := by
  obtain ⟨d, f, dd, at', A, c, xs, h1, h2, h3⟩ := h
  exact ⟨d, f, dd, at', A, c, xs, (hp.block g (blk_lt h1) (fun h => h)).trans h1, own_pu h2 hp, h3⟩
theorem keys_zero (n : Nat) : ∀ j, j < n → (madeCells (Value.agg #[.bool false, .int .i64 0, .string ⟨#[]⟩]).cells (n * 3)).toList[3 * j]? = some (.bool false) := by
  intro j hj
  have e : (Value.agg #[.bool false, .int .i64 0, .string ⟨#[]⟩]).cells = #[.bool false, .int .i64 0, .string ⟨#[]⟩] := rfl
  rw [e]
  have hs : (#[Value.bool false, .int .i64 0, .string ⟨#[]⟩] : Array Value).size = 3 := rfl
  simp only [madeCells, hs, Array.toList_map, Array.toList_range, List.getElem?_map]
  rw [List.getElem?_range (by omega)]
  simp only [Option.map_some]
  rw [show 3 * j % 3 = 0 by omega]; rfl
theorem run_keys (w : World) (n : Nat) (hn : n ≤ 1000) : ∃ w' xs, (Instr.makeSlice 196 (.int .i64 n) (.int .i64 n)).run Tryz.prog w = .ok (.slice (some ⟨w.heap.size, 0, none⟩) n n) w' ∧ w'.ownsRow w.heap.size 200 3 (.slice (some ⟨w.heap.size, 0, none⟩) n n) n xs ∧ Pu w w' ∧ ∀ j, j < n → xs[3 * j]? = some (.bool false) := by
  obtain ⟨i0, hi, hz0, hz1, hz2⟩ := info_parts infoKey
  obtain ⟨w', h1, h2, h3⟩ := run_make_full (P := Tryz.prog) w w.heap.size 196 200 i0 _ 3 Tryz.underlying196 hi hz0 hz1 .i64 .i64 n (by rw [hz2]; omega) (by simp [maxLen]; omega) (Nat.le_refl _)
  exact ⟨w', _, h1, h2, (Fr.refl _ _).grown h3 (fun _ _ e => by cases e), keys_zero n⟩
set_option maxRecDepth 100000 in
set_option maxHeartbeats 2000000 in
theorem refKeysOpen {w : World} {g : Nat} {img : Bytes} (h : RefAt w g img []) (hl : img.length ≤ 17592186044416) (f n : Nat) (hn : 1 ≤ n ∧ n ≤ 64) (hf : f ≤ 1099511627776) (ht : f + 2 * n ≤ img.length / 128) (hz : (img.drop (f * 128)).take (2 * n * 128) = zeros (2 * n * 128)) :
    Calls Tryz.prog 45 #[.pointer (some ⟨g, 0, none⟩), .int .i64 f, .int .i64 n] w fun e w' => ∃ t, e = .returned (.tuple #[.pointer (some ⟨t, 0, none⟩), .int .i64 0, .int .i64 0]) ∧ TabR w' t n ∧ w.heap.size ≤ t ∧ Pu w w' := by
  have hR := refRead h (fun x hx => by simp at hx) hl f (2 * n) hf (by omega) ((thereB_iff _ _ _).2 (by omega))
  have e1 : ((lay img []).drop (f * 128)).take (2 * n * 128) = zeros (2 * n * 128) := hz
  rw [e1] at hR
  rw [show ((2 * n : Nat) : Int) = 2 * (n : Int) by omega] at hR
  unfold tv at hR
  have HR := Lib.hid hR
  clear h ht hz e1 hR
  obtain ⟨hn1, hn2⟩ := hn
  obtain ⟨N, hN⟩ : ∃ N, N = 2 * n * 128 := ⟨_, rfl⟩
  rw [← hN] at HR
  have HN := Lib.hid hN
  clear hN
  go_enter Tryz.func45, Tryz.ntmps45
  go_wp2_with fail
  refine HR.out.mono ?_
  rintro e w1 ⟨rfl, rfl⟩
  obtain ⟨w2, xs, hrun, ho2, hp2, hxs⟩ := run_keys w n (by omega)
  have Ho2 := Lib.hid ho2
  have Hp2 := Lib.hid hp2
  have Hxs := Lib.hid hxs
  clear ho2 hp2 hxs HR
  go_wp2
  have hb3 := heap_alloc_new w2 (.cells #[.pointer (some ⟨g, 0, none⟩), .int .i64 (f : Nat), .slice (some ⟨w.heap.size, 0, none⟩) n n, .bool false, .int .i64 0] 198)
  have hp3 : Pu w2 (w2.alloc (.cells #[.pointer (some ⟨g, 0, none⟩), .int .i64 (f : Nat), .slice (some ⟨w.heap.size, 0, none⟩) n n, .bool false, .int .i64 0] 198)) := (Fr.refl _ _).alloc _
  generalize w2.alloc (.cells #[.pointer (some ⟨g, 0, none⟩), .int .i64 (f : Nat), .slice (some ⟨w.heap.size, 0, none⟩) n n, .bool false, .int .i64 0] 198) = w3 at *
  have Hb3 := Lib.hid hb3
  have Hp3 := Lib.hid hp3
  clear hb3 hp3 hrun
  go_loopw [12, 13, 14, 15, 16] (fun i _ _ _ _ wr => ∃ j : Nat, j ≤ n ∧ i = .int .i64 j ∧ Pu w3 wr) (fun i _ _ _ _ _ => n - (intOf i).toNat)
  case atStart => exact ⟨0, Nat.zero_le _, rfl, Fr.refl _ _⟩
  case round =>
    obtain ⟨j, hj, rfl, hp⟩ := hrel
    have Hp := Lib.hid hp
    clear hp
    by_cases hlt : j < n
    · obtain ⟨o, ho⟩ : ∃ o, o = 256 * j := ⟨_, rfl⟩
      have ho1 : (256 : Int) * (j : Int) = (o : Int) := by omega
      have ho2 : o + 256 ≤ N := by have := HN.out; omega
      have q1 : IntKind.i64.wrap (o : Int) = (o : Int) := IntWalk.i64_in _ (by omega)
      have q2 : IntKind.i64.wrap ((o : Int) + 128) = (o : Int) + 128 := IntWalk.i64_in _ (by omega)
      have q3 : IntKind.i64.wrap ((o : Int) + 256) = (o : Int) + 256 := IntWalk.i64_in _ (by omega)
      have s1 := fun W => run_cut (P := Tryz.prog) W 9 (zeros N) o ((o : Int) + 128) Tryz.underlying9 (by omega) (by omega) (by rw [zeros_length]; omega)
      have s2 := fun W => run_cut (P := Tryz.prog) W 9 (zeros N) ((o : Int) + 128) ((o : Int) + 256) Tryz.underlying9 (by omega) (by omega) (by rw [zeros_length]; omega)
      rw [show cut (zeros N) (o : Int).toNat (((o : Int) + 128).toNat - (o : Int).toNat) = zeros 128 by rw [cut_zeros _ _ _ (by omega)]; congr 1; omega] at s1
      rw [show cut (zeros N) ((o : Int) + 128).toNat (((o : Int) + 256).toNat - ((o : Int) + 128).toNat) = zeros 128 by rw [cut_zeros _ _ _ (by omega)]; congr 1; omega] at s2
      clear ho
      have hee : ((str (zeros 128)).toList == (str (zeros 128)).toList) = true := beq_self_eq_true _
      have CK := Lib.hid (fun W => refKeyRead W)
      have CZ := Lib.hid (fun W => refZero16 W)
      generalize zeros 128 = zz at *
      go_wp2
      go_quiet (fail)
      have Hpq := Lib.hid (Hp.out.drewN nq)
      generalize wr.drewN nq = wq at *
      clear s1 s2
      go_wp2_with fail
      refine (CK.out _).mono ?_
      rintro e w4 ⟨rfl, hp4⟩
      have Hp4 := Lib.hid (Hpq.out.pu hp4)
      clear hp4
      go_wp2_with fail
      refine (CZ.out _).mono ?_
      rintro e w5 ⟨rfl, hp5⟩
      have Hp5 := Lib.hid ((Hp4.out.alloc _).pu hp5)
      clear hp5
      go_wp2_with fail
      refine (CZ.out _).mono ?_
      rintro e w6 ⟨rfl, hp6⟩
      have Hp6 := Lib.hid (Hp5.out.pu hp6)
      clear hp6
      go_wp2
      exact ⟨⟨j + 1, by omega, by go_num, Hp6.out⟩, by simp [intOf]; omega⟩
    · obtain rfl : j = n := by omega
      go_wp2
      go_ret3
      refine ⟨w2.heap.size, rfl, ⟨_, _, _, _, _, _, xs, (Hp.out.block _ (blk_lt Hb3.out) (fun h => h)).trans Hb3.out, ?_, Hxs.out⟩, Hp2.out.size, (Hp2.out.pu Hp3.out).pu Hp.out⟩
      exact own_base (own_pu Ho2.out (Hp3.out.pu Hp.out)) (Nat.zero_le _)
set_option maxRecDepth 100000 in
theorem refBuckets {w : World} {t n : Nat} (h : TabR w t n) (hn : n ≤ 1000) :
    Calls Tryz.prog 48 #[.pointer (some ⟨t, 0, none⟩)] w fun e w' => e = .returned (.slice none 0 0) ∧ w = w' := by
  obtain ⟨d, f, dd, at', A, c, xs, hb, ho, hx⟩ := h
  have c2 : w.cell? ⟨t, 2, none⟩ = some (.slice A n c) := by rw [cell_of_row _ _ _ _ _ _ hb]; rfl
  have Ho := Lib.hid ho
  have Hx := Lib.hid hx
  clear hb ho hx
  go_enter Tryz.func48, Tryz.ntmps48
  go_wp2
  go_loop [3, 4] (fun x i => ∃ j : Nat, j ≤ n ∧ i = .int .i64 j ∧ x = .slice none 0 0) (fun _ i => n - (intOf i).toNat)
  case atStart => exact ⟨0, Nat.zero_le _, rfl, rfl⟩
  case round =>
    obtain ⟨j, hj, rfl, rfl⟩ := hrel
    by_cases hlt : j < n
    · obtain ⟨g1, k1, e1⟩ := own_form Ho.out (by omega)
      injection e1 with e1 _ e2
      subst e1 e2
      have y0 := Ho.out.cells (g := g1) rfl _ _ (Hx.out j hlt)
      rw [Addr.add_lit, Nat.zero_add, Nat.mul_comm 3 j] at y0
      go_wp2
      exact ⟨⟨j + 1, by omega, by go_num, rfl⟩, by simp [intOf]; omega⟩
    · obtain rfl : j = n := by omega
      go_wp2
      go_ret
      exact ⟨rfl, rfl⟩
/-- A ledger of no record. -/
def LedR (w : World) (g : Nat) : Prop := w.cell? ⟨g, 0, none⟩ = some (.slice none 0 0)
theorem LedR.lt {w : World} {g : Nat} (h : LedR w g) : g < w.heap.size := World.block_lt_of_cell? w _ h
theorem LedR.pu {w w1 : World} {g : Nat} (h : LedR w g) (hp : Pu w w1) : LedR w1 g := (hp.pcell g _ h.lt).trans h
theorem refOfNil (w : World) : Calls Tryz.prog 47 #[.slice none 0 0] w fun e w' => ∃ g, e = .returned (.tuple #[.pointer (some ⟨g, 0, none⟩), .int .i64 0]) ∧ LedR w' g ∧ w.heap.size ≤ g ∧ Pu w w' := by
  go_enter Tryz.func47, Tryz.ntmps47
  go_wp2
  refine wp_loop_rounds 1 ?_
  rw [rounds_succ]
  go_wp2
  go_ret2
  exact ⟨_, rfl, by unfold LedR; rw [cell_of_row _ _ _ _ _ _ (heap_alloc_new _ _)]; rfl, Nat.le_refl _, (Fr.refl _ _).alloc _⟩
theorem refTime {w : World} {g : Nat} (h : LedR w g) : Calls Tryz.prog 53 #[.pointer (some ⟨g, 0, none⟩)] w fun e w' => e = .returned (.int .i64 0) ∧ w = w' := by
  unfold LedR at h
  go_enter Tryz.func53, Tryz.ntmps53
  go_wp2
  go_ret
  exact ⟨rfl, rfl⟩
end Go.Proofs.YtaendhbiehknlaaGreatDoor
