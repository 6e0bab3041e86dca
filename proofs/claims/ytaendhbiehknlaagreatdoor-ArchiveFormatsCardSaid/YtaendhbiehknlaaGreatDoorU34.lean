/- What is proved here, of the given program: The document's disk (ref10): Flush, New. -/
import Derived.Test.YtaendhbiehknlaaGreatDoorU33
import Derived.Deep.RegionLaw
set_option linter.unusedVariables false
set_option linter.unusedSimpArgs false
set_option linter.constructorNameAsVariable false
namespace Go.Proofs.YtaendhbiehknlaaGreatDoor
open Go.RowKit Go.Shelf Go.Proofs

theorem infoStr : (Tryz.prog.info? 9).map (fun i => (i.zero, i.size, i.bytes)) = some (some (.string ⟨#[]⟩), 1, 16) := by kernel_rfl
theorem infoInt : (Tryz.prog.info? 3).map (fun i => (i.zero, i.size, i.bytes)) = some (some (.int .i64 0), 1, 8) := by kernel_rfl
theorem set3of4 {W : World} {g : Nat} {a b c d : Value} {t : TypeId} (x y z : Value) (h : W.heap[g]? = some (.cells #[a, b, c, d] t (0, 0))) : (((W.setCell ⟨g, 0, none⟩ x).setCell ⟨g, 1, none⟩ y).setCell ⟨g, 2, none⟩ z).heap[g]? = some (.cells #[x, y, z, d] t (0, 0)) := by
  simp only [World.setCell, Array.getElem?_modify, if_pos, h, Option.map_some]
  rfl
section
variable {w w1 : World} {g : Nat} {img : Bytes} {q : List (Int × Bytes)}
theorem secs_snoc (L : Bytes) (j : Nat) (h : j < L.length / 128) : (secs L).take (j + 1) = (secs L).take j ++ [sect L j] := by
  rw [List.take_succ_eq_append_getElem (by rw [secs_length]; exact h)]
  congr 2
  simp [secs]
set_option maxRecDepth 100000 in
set_option maxHeartbeats 1000000 in
theorem refFlush (h : RefAt w g img q) (hq : QOk img.length q) (hl : img.length ≤ 17592186044416) :
    Calls Tryz.prog 31 #[.pointer (some ⟨g, 0, none⟩)] w fun e w' => e = .returned (.int .i64 0) ∧ RefAt w' g (lay img q) [] ∧ Fr (At g) w w' := by
  have C2 := Lib.hid (refOn h)
  have hlay := lay_length img q hq
  have HC := Lib.hid (fun i hi (W : World) (hp : Pu w W) => refSee (h.pu hp) hq i hi hl)
  obtain ⟨A, c, B, d, C, e, R⟩ := h.cs
  have c0 := R.c0
  have hc := R.hc
  have hgl := h.lt
  have Hb := Lib.hid R.blk
  clear R h
  generalize lay img q = L at *
  have Hlay := Lib.hid hlay
  clear hlay hq
  unfold tv at HC
  go_enter Tryz.func31, Tryz.ntmps31
  go_wp2_with fail
  refine C2.out.mono ?_
  rintro e w' ⟨rfl, rfl⟩
  go_wp2_with fail
  go_loopw [3, 4] (fun v i wr => ∃ j : Nat, j ≤ img.length / 128 ∧ i = .int .i64 j ∧ wr.ownsRow w.heap.size 9 1 v j (((secs L).take j).map tv) ∧ Pu w wr) (fun _ i _ => img.length / 128 - (intOf i).toNat)
  case atStart => exact ⟨0, Nat.zero_le _, rfl, World.ownsRow_nil _ _ _ _, Fr.refl _ _⟩
  case round =>
    obtain ⟨j, hj, rfl, ho, hp⟩ := hrel
    obtain ⟨A1, k1, rfl⟩ := own_shape ho
    have d0 := (hp.pcell g 0 hgl).trans c0
    have hgl2 : g < wr.heap.size := Nat.lt_of_lt_of_le hgl hp.size
    have Ho := Lib.hid ho
    have Hp := Lib.hid hp
    clear ho hp
    by_cases hlt : j < img.length / 128
    · have hsn := Lib.hid (secs_snoc L j (by rw [Hlay.out]; exact hlt))
      go_wp2_with fail
      refine (HC.out j hlt wr Hp.out).mono ?_
      rintro e w' ⟨rfl, rfl⟩
      go_wp2_with (at_builtin; refine wpList_append_any _ rfl (.tmp 17) (.tmp 21) 74 rfl w.heap.size 9 (.string ⟨#[]⟩) 1 16 Tryz.underlying74 infoStr rfl (by decide) (.slice A1 j k1) j (((secs L).take j).map tv) rfl (Ho.out.alloc _) (some ⟨wr.heap.size, 0, none⟩) 1 1 [.string (str (sect L j))] rfl (rds_new wr [.string (str (sect L j))] _ 1 1 rfl) (by simp [Value.oneCell']) (by omega) (by have := Hp.out.size; simp; omega) ?_; intro v3 w3 hown hgrow hat; obtain ⟨A4, c4, rfl⟩ := own_shape hown; have Hgrow := Lib.hid hgrow; have Hown := Lib.hid hown; clear hown hgrow hat)
      refine ⟨⟨j + 1, by omega, by go_num, ?_, ?_⟩, by simp [intOf]; omega⟩
      · rw [hsn.out, List.map_append]; exact Hown.out
      · exact (Hp.out.alloc _).grown Hgrow.out (fun k hk e => by have := (own_lt Ho.out _ e).1; omega)
    · obtain rfl : j = img.length / 128 := by omega
      have hb := (Hp.out.block g hgl (fun h => h)).trans Hb.out
      have d1 : wr.cell? ⟨g, 1, none⟩ = some (.slice B q.length d) := by rw [cell_of_row _ _ _ _ _ _ hb]; rfl
      have d2 : wr.cell? ⟨g, 2, none⟩ = some (.slice C q.length e) := by rw [cell_of_row _ _ _ _ _ _ hb]; rfl
      have df : ∀ i, wr.frozen? ⟨g, i, none⟩ = false := fun i => by simp [World.frozen?, hb]
      have Hb2 := Lib.hid hb
      clear hb
      go_wp2
      go_ret
      have hfs : Fr (At g) wr (((wr.setCell ⟨g, 0, none⟩ (.slice A1 (img.length / 128) k1)).setCell ⟨g, 1, none⟩ (.slice none 0 0)).setCell ⟨g, 2, none⟩ (.slice none 0 0)) := (((Fr.refl (At g) wr).set ⟨g, 0, none⟩ _ (fun _ => rfl)).set ⟨g, 1, none⟩ _ (fun _ => rfl)).set ⟨g, 2, none⟩ _ (fun _ => rfl)
      have hs : Ts (fun k => k ≠ g) wr (.slice A1 (img.length / 128) k1) (secs L) := by
        have h1 := Ho.out
        rw [List.take_of_length_le (by rw [secs_length, Hlay.out]; exact Nat.le_refl _)] at h1
        exact (Sl.of_srow h1).mono (fun k _ hk => by have := (own_lt h1 k hk).1; omega)
      exact ⟨rfl, ⟨_, _, _, set3of4 _ _ _ Hb2.out, hs.fr hfs (fun k _ hk e => hk e), Sl.nil _ _ _, Sl.nil _ _ _⟩, Hp.out.any.trans hfs (fun _ _ h => h)⟩
end
theorem sect_zeros (n i : Nat) (h : i < n) : sect (zeros (n * 128)) i = zeros 128 := by
  rw [sect, zeros_drop, zeros_take, Nat.min_eq_left (by omega)]
theorem secs_zeros (n : Nat) : secs (zeros (n * 128)) = List.replicate n (zeros 128) := by
  rw [secs, zeros_length, Nat.mul_div_cancel _ (by decide), List.eq_replicate_iff]
  refine ⟨by simp, fun x hx => ?_⟩
  obtain ⟨i, hi, rfl⟩ := List.mem_map.1 hx
  exact sect_zeros n i (List.mem_range.1 hi)
theorem set0of4 {W : World} {g : Nat} {a b c d : Value} {t : TypeId} (x : Value) (h : W.heap[g]? = some (.cells #[a, b, c, d] t (0, 0))) : (W.setCell ⟨g, 0, none⟩ x).heap[g]? = some (.cells #[x, b, c, d] t (0, 0)) := by
  simp only [World.setCell, Array.getElem?_modify, if_pos, h, Option.map_some]
  rfl
theorem rds_new1 (w : World) (o : Obj) (cs : List Value) (t : TypeId) (n size : Nat) (h : cs.length = n * size) : Rds ((w.alloc o).alloc (.cells cs.toArray t)) size (some ⟨w.heap.size + 1, 0, none⟩) n cs := by
  have h1 := rds_new (w.alloc o) cs t n size h
  rwa [show (w.alloc o).heap.size = w.heap.size + 1 by simp] at h1
theorem newRound {w wr w3 : World} {j k1 : Nat} {A1 : Option Addr} {o1 o2 : Obj} (hb : wr.heap[w.heap.size]? = some (.cells #[.slice A1 j k1, .slice none 0 0, .slice none 0 0, .int .i64 (-1)] 77 (0, 0))) (ho : wr.ownsRow w.heap.size 9 1 (.slice A1 j k1) j (List.replicate j (tv (zeros 128)))) (hp : Pu w wr) (hgrow : ((wr.alloc o1).alloc o2).drew.grownBy w3 (Value.slice A1 j k1).ownBlock) :
    w3.heap[w.heap.size]? = some (.cells #[.slice A1 j k1, .slice none 0 0, .slice none 0 0, .int .i64 (-1)] 77 (0, 0)) ∧ Pu w w3 := by
  have h1 := blk_lt hb
  refine ⟨?_, ((((hp.alloc o1).alloc o2).drew).grown hgrow (fun k hk e => by have := (own_lt ho _ e).1; omega))⟩
  exact (hgrow.block _ (by simp; omega) (blk_ne hb ho (by decide))).trans ((heap_alloc_old _ _ _ (by simp; omega)).trans ((heap_alloc_old _ _ _ h1).trans hb))
set_option maxRecDepth 100000 in
set_option maxHeartbeats 1000000 in
theorem refNew (n : Nat) (w : World) (hn : n ≤ 65536) :
    Calls Tryz.prog 6 #[.int .i64 n] w fun e w' => ∃ g, e = .returned (.pointer (some ⟨g, 0, none⟩)) ∧ w.heap.size ≤ g ∧ RefAt w' g (zeros (n * 128)) [] ∧ Pu w w' := by
  have hmk := run_zrow 128 (by omega)
  have hmk : ∀ W, (Instr.makeSlice 23 (.int .i64 128) (.int .i64 128)).run Tryz.prog W = .ok (.slice (some ⟨W.heap.size, 0, none⟩) 128 128) (W.alloc (.cells (zrow 128) 5)) := hmk
  have hzs := run_zstr 128 (by omega)
  have hzd := run_zstrD 128 (by omega)
  go_enter Tryz.func6, Tryz.ntmps6
  go_wp2
  have hb0 := heap_alloc_new w (.cells #[.slice none 0 0, .slice none 0 0, .slice none 0 0, .int .i64 (-1)] 77)
  have hp0 : Pu w (w.alloc (.cells #[.slice none 0 0, .slice none 0 0, .slice none 0 0, .int .i64 (-1)] 77)) := (Fr.refl _ _).alloc _
  generalize w.alloc (.cells #[.slice none 0 0, .slice none 0 0, .slice none 0 0, .int .i64 (-1)] 77) = w0 at *
  go_loopw [4] (fun i wr => ∃ (j : Nat) (v : Value), j ≤ n ∧ i = .int .i64 j ∧ wr.heap[w.heap.size]? = some (.cells #[v, .slice none 0 0, .slice none 0 0, .int .i64 (-1)] 77 (0, 0)) ∧ wr.ownsRow w.heap.size 9 1 v j (List.replicate j (tv (zeros 128))) ∧ Pu w wr) (fun i _ => n - (intOf i).toNat)
  case atStart => exact ⟨0, .slice none 0 0, Nat.zero_le _, rfl, hb0, World.ownsRow_nil _ _ _ _, hp0⟩
  case round =>
    clear hb0 hp0
    obtain ⟨j, v, hj, rfl, hb, ho, hp⟩ := hrel
    obtain ⟨A1, k1, rfl⟩ := own_shape ho
    have d0 : wr.cell? ⟨w.heap.size, 0, none⟩ = some (.slice A1 j k1) := by rw [cell_of_row _ _ _ _ _ _ hb]; rfl
    have hgl := blk_lt hb
    have Hb := Lib.hid hb
    have Ho := Lib.hid ho
    have Hp := Lib.hid hp
    clear hb ho hp
    by_cases hlt : j < n
    · go_wp2_with fail
      go_region_law
        (first
          | (refine step_append_any (P := Tryz.prog) _ (by rfl) (.tmp 16) (.tmp 19) 74 (by rfl) w.heap.size 9 (.string ⟨#[]⟩) 1 16 Tryz.underlying74 infoStr (by rfl) (by decide) (.slice A1 j k1) j (List.replicate j (tv (zeros 128))) (by rfl) (own_pu ((Ho.out.alloc (.cells (zrow 128) 5)).alloc (.cells #[.string (str (zeros 128))] 9)) (Fr.refl _ _).drew) (some ⟨wr.heap.size + 1, 0, none⟩) 1 1 [.string (str (zeros 128))] (by rfl) (Rds.drew (rds_new1 wr (.cells (zrow 128) 5) [.string (str (zeros 128))] 9 1 1 (by rfl))) (by simp [Value.oneCell']) (by omega) (by have := Hp.out.size; simp; omega) ?_; intro v3 w3 hown3 hgrow3 hat3; obtain ⟨A4, k4, rfl⟩ := own_shape hown3; obtain ⟨hb3, hp3⟩ := newRound Hb.out Ho.out Hp.out hgrow3; have d3 : w3.cell? ⟨w.heap.size, 0, none⟩ = some (.slice A1 j k1) := (by rw [cell_of_row _ _ _ _ _ _ hb3]; rfl); have f3 : w3.frozen? ⟨w.heap.size, 0, none⟩ = false := (by simp [World.frozen?, hb3]); have Hb3 := Lib.hid hb3; have Hp3 := Lib.hid hp3; have Hown3 := Lib.hid hown3; clear hb3 hp3 hown3 hgrow3 hat3))
      all_goals
        go_wp2
        have hb4 := set0of4 (.slice A4 (j + 1) k4) Hb3.out
        have hf4 : Fr (At w.heap.size) w3 (w3.setCell ⟨w.heap.size, 0, none⟩ (.slice A4 (j + 1) k4)) := (Fr.refl _ _).set _ _ (fun _ => rfl)
        refine ⟨⟨j + 1, _, by omega, by go_num, hb4, ?_, Fr.new Hp3.out hf4 (Nat.le_refl _)⟩, by simp [intOf]; omega⟩
        refine own_set ?_ (blk_ne Hb3.out Hown3.out (by decide)) _
        rw [List.replicate_succ']
        exact Hown3.out
    · obtain rfl : j = n := by omega
      go_wp2
      go_ret
      refine ⟨_, rfl, Nat.le_refl _, ⟨_, _, _, Hb.out, ?_, Sl.nil _ _ _, Sl.nil _ _ _⟩, Hp.out⟩
      rw [secs_zeros]
      have h1 := Ho.out
      rw [← List.map_replicate] at h1
      exact (Sl.of_srow h1).mono (fun k _ hk => by have h9 := blk_ne Hb.out Ho.out (by decide); rw [hk] at h9; intro e; exact h9 (by rw [e]))
end Go.Proofs.YtaendhbiehknlaaGreatDoor
