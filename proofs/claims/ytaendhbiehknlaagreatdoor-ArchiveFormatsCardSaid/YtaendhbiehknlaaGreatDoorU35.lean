/- What is proved here, of the given program: The document's disk (ref10): Write. -/
import Derived.Test.YtaendhbiehknlaaGreatDoorU34
set_option linter.unusedVariables false
set_option linter.unusedSimpArgs false
set_option linter.constructorNameAsVariable false
namespace Go.Proofs.YtaendhbiehknlaaGreatDoor
open Go.RowKit Go.Shelf Go.Proofs

theorem own_emp (w : World) (t : TypeId) (base : Nat) (hb : base ≤ w.heap.size) : (w.alloc (.cells #[] t)).ownsRow base t 1 (.slice (some ⟨w.heap.size, 0, none⟩) 0 0) 0 [] := World.ownsRow_made w #[] 0 hb (by simp [maxLen]) (by simp)
theorem rds_blk {W : World} {k : Nat} {v : Value} {t : TypeId} (h : W.heap[k]? = some (.cells #[v] t (0, 0))) : Rds W 1 (some ⟨k, 0, none⟩) 1 [v] :=
  ⟨rfl, fun _ => ⟨_, rfl, fun j u hu => by
    rw [Addr.add_lit, Nat.zero_add, cell_of_row _ _ j _ _ _ h]
    simpa using hu⟩⟩
theorem one_ints (l : List Int) : ∀ u ∈ l.map (Value.int .i64), u.oneCell' = true := by
  intro u hu
  obtain ⟨_, _, rfl⟩ := List.mem_map.1 hu
  rfl
theorem one_txts (l : List Bytes) : ∀ u ∈ l.map tv, u.oneCell' = true := by
  intro u hu
  obtain ⟨_, _, rfl⟩ := List.mem_map.1 hu
  rfl
theorem set1of4 {W : World} {g : Nat} {a b c d : Value} {t : TypeId} (x : Value) (h : W.heap[g]? = some (.cells #[a, b, c, d] t (0, 0))) : (W.setCell ⟨g, 1, none⟩ x).heap[g]? = some (.cells #[a, x, c, d] t (0, 0)) := by
  simp only [World.setCell, Array.getElem?_modify, if_pos, h, Option.map_some]
  rfl
theorem set2of4 {W : World} {g : Nat} {a b c d : Value} {t : TypeId} (x : Value) (h : W.heap[g]? = some (.cells #[a, b, c, d] t (0, 0))) : (W.setCell ⟨g, 2, none⟩ x).heap[g]? = some (.cells #[a, b, x, d] t (0, 0)) := by
  simp only [World.setCell, Array.getElem?_modify, if_pos, h, Option.map_some]
  rfl
theorem set_own {α : Type} {enc : α → Value} {h1 : ∀ x, (enc x).oneCell' = true} {w w2 : World} {g n i : Nat} {v : Value} {e : TypeId} {l : List α} (ho : w2.ownsRow w.heap.size e 1 v n (l.map enc)) (hg : g < w.heap.size) (u : Value) : Sl (Kd.scalar enc h1) (fun k => k ≠ g) (w2.setCell ⟨g, i, none⟩ u) v l :=
  ((Sl.of_srow ho).mono (S' := fun k => k ≠ g) (fun k _ hk => by have := (own_lt ho k hk).1; omega)).fr ((Fr.refl (At g) w2).set ⟨g, i, none⟩ u (fun _ => rfl)) (fun k _ hk e => hk e)
theorem own_emp1 (w : World) (o : Obj) (t : TypeId) : ((w.alloc o).alloc (.cells #[] t)).ownsRow w.heap.size t 1 (.slice (some ⟨w.heap.size + 1, 0, none⟩) 0 0) 0 [] := by
  have h := own_emp (w.alloc o) t w.heap.size (by simp)
  rwa [show (w.alloc o).heap.size = w.heap.size + 1 by simp] at h
theorem blkB (w : World) {w4 : World} {x : Value} {t t' : TypeId} {n c : Nat} (h : ((w.alloc (.cells #[] t')).alloc (.cells #[x] t)).drew.grownBy w4 (Value.slice (some ⟨w.heap.size, 0, none⟩) n c).ownBlock) : w4.heap[w.heap.size + 1]? = some (.cells #[x] t (0, 0)) := by
  have h1 := heap_alloc_new (w.alloc (.cells #[] t')) (.cells #[x] t)
  rw [show (w.alloc (.cells #[] t')).heap.size = w.heap.size + 1 by simp] at h1
  exact (h.block (w.heap.size + 1) (by simp) (by simp [Value.ownBlock])).trans h1
theorem blkC (w : World) {w4 : World} {x : Value} {t t' : TypeId} {n c : Nat} (h : ((w.alloc (.cells #[x] t)).alloc (.cells #[] t')).drew.grownBy w4 (Value.slice (some ⟨w.heap.size + 1, 0, none⟩) n c).ownBlock) : w4.heap[w.heap.size]? = some (.cells #[x] t (0, 0)) := by
  have h1 := heap_alloc_new w (.cells #[x] t)
  exact (h.block w.heap.size (by simp; omega) (by simp [Value.ownBlock])).trans ((heap_alloc_old _ _ _ (by simp)).trans h1)
theorem half1 {w w2 : World} {g j k2 : Nat} {A2 : Option Addr} {sf vw : Value} {B : Option Addr} {n d : Nat} {ats : List Int} {x : Int} {safe whats : List Bytes} (hb : w.heap[g]? = some (.cells #[sf, .slice B n d, vw, .int .i64 (-1)] 77 (0, 0))) (hs : Ts (fun k => k ≠ g) w sf safe) (hw : Ts (fun k => k ≠ g) w vw whats) (hp : Pu w w2) (ho : w2.ownsRow w.heap.size 3 1 (.slice A2 (j + 1) k2) (j + 1) (ats.map (Value.int .i64) ++ [.int .i64 x])) :
    (w2.setCell ⟨g, 1, none⟩ (.slice A2 (j + 1) k2)).heap[g]? = some (.cells #[sf, .slice A2 (j + 1) k2, vw, .int .i64 (-1)] 77 (0, 0)) ∧ Ts (fun k => k ≠ g) (w2.setCell ⟨g, 1, none⟩ (.slice A2 (j + 1) k2)) sf safe ∧ Ns (fun k => k ≠ g) (w2.setCell ⟨g, 1, none⟩ (.slice A2 (j + 1) k2)) (.slice A2 (j + 1) k2) (ats ++ [x]) ∧ Ts (fun k => k ≠ g) (w2.setCell ⟨g, 1, none⟩ (.slice A2 (j + 1) k2)) vw whats ∧ Fr (At g) w (w2.setCell ⟨g, 1, none⟩ (.slice A2 (j + 1) k2)) := by
  have hgl := blk_lt hb
  have hfs : Fr (At g) w2 (w2.setCell ⟨g, 1, none⟩ (.slice A2 (j + 1) k2)) := (Fr.refl _ _).set _ _ (fun _ => rfl)
  have ho2 : w2.ownsRow w.heap.size 3 1 (.slice A2 (j + 1) k2) (j + 1) ((ats ++ [x]).map (Value.int .i64)) := by rw [List.map_append]; exact ho
  exact ⟨set1of4 _ ((hp.block g hgl (fun h => h)).trans hb), (hs.pu hp).fr hfs (fun k _ hk e => hk e), set_own ho2 hgl _, (hw.pu hp).fr hfs (fun k _ hk e => hk e), hp.any.trans hfs (fun _ _ h => h)⟩
theorem half2 {w w2 : World} {g j k2 : Nat} {A2 : Option Addr} {sf va vw : Value} {ats : List Int} {x : Bytes} {safe whats : List Bytes} (hb : w.heap[g]? = some (.cells #[sf, va, vw, .int .i64 (-1)] 77 (0, 0))) (hs : Ts (fun k => k ≠ g) w sf safe) (ha : Ns (fun k => k ≠ g) w va ats) (hp : Pu w w2) (ho : w2.ownsRow w.heap.size 9 1 (.slice A2 (j + 1) k2) (j + 1) (whats.map tv ++ [.string (str x)])) :
    (w2.setCell ⟨g, 2, none⟩ (.slice A2 (j + 1) k2)).heap[g]? = some (.cells #[sf, va, .slice A2 (j + 1) k2, .int .i64 (-1)] 77 (0, 0)) ∧ Ts (fun k => k ≠ g) (w2.setCell ⟨g, 2, none⟩ (.slice A2 (j + 1) k2)) sf safe ∧ Ns (fun k => k ≠ g) (w2.setCell ⟨g, 2, none⟩ (.slice A2 (j + 1) k2)) va ats ∧ Ts (fun k => k ≠ g) (w2.setCell ⟨g, 2, none⟩ (.slice A2 (j + 1) k2)) (.slice A2 (j + 1) k2) (whats ++ [x]) ∧ Fr (At g) w (w2.setCell ⟨g, 2, none⟩ (.slice A2 (j + 1) k2)) := by
  have hgl := blk_lt hb
  have hfs : Fr (At g) w2 (w2.setCell ⟨g, 2, none⟩ (.slice A2 (j + 1) k2)) := (Fr.refl _ _).set _ _ (fun _ => rfl)
  have ho2 : w2.ownsRow w.heap.size 9 1 (.slice A2 (j + 1) k2) (j + 1) ((whats ++ [x]).map tv) := by rw [List.map_append]; exact ho
  exact ⟨set2of4 _ ((hp.block g hgl (fun h => h)).trans hb), (hs.pu hp).fr hfs (fun k _ hk e => hk e), (ha.pu hp).fr hfs (fun k _ hk e => hk e), set_own ho2 hgl _, hp.any.trans hfs (fun _ _ h => h)⟩
section
variable {w w1 : World} {g : Nat} {img : Bytes}
set_option maxRecDepth 100000 in
set_option maxHeartbeats 2000000 in
theorem refWrite (h : RefAt w g img []) (hl : img.length ≤ 17592186044416) (a m : Nat) (l : Bytes) (hm : l.length = m * 128) (ht : thereB (img.length / 128) a m = true) :
    Calls Tryz.prog 30 #[.pointer (some ⟨g, 0, none⟩), .int .i64 a, .string (str l)] w fun e w' => e = .returned (.int .i64 0) ∧ RefAt w' g img (partsOf a l m) ∧ Fr (At g) w w' := by
  have htb := (thereB_iff _ _ _).1 ht
  have C1 := Lib.hid (refThere h a m hl (by omega))
  rw [ht] at C1
  have C2 := Lib.hid (refOn h)
  obtain ⟨N, hN⟩ : ∃ N, N = l.length := ⟨_, rfl⟩
  have hsz : (str l).size = N := by rw [str_size, hN]
  have hmI : ((N : Nat) : Int) % 128 = 0 := by omega
  have hdI : ((N : Nat) : Int) / 128 = (m : Int) := by omega
  have hNb : N ≤ 17592186044416 := by omega
  have Hm := Lib.hid (show N = m * 128 by omega)
  have HN := Lib.hid hN
  have Hr := Lib.hid h
  have ham : a + m ≤ 17592186044416 := by omega
  clear h ht htb hm hN
  go_enter Tryz.func30, Tryz.ntmps30
  go_wp2_with fail
  refine C1.out.mono ?_
  rintro e w' ⟨rfl, rfl⟩
  go_wp2_with fail
  refine C2.out.mono ?_
  rintro e w' ⟨rfl, rfl⟩
  go_wp2
  clear hmI hdI
  go_loopw [7] (fun i wr => ∃ j i' : Nat, j ≤ m ∧ Hid (i' = j * 128) ∧ i = .int .i64 i' ∧ RefAt wr g img (partsOf a l j) ∧ Fr (At g) w wr) (fun i _ => N + 128 - (intOf i).toNat)
  case atStart => exact ⟨0, 0, Nat.zero_le _, rfl, rfl, Hr.out, Fr.refl _ _⟩
  case round =>
    obtain ⟨j, i, hj, Hi, rfl, hr, hf⟩ := hrel
    by_cases hlt : j < m
    · have hi1 : i + 128 ≤ N := by have := Hi.out; have := Hm.out; omega
      have hi2 : (i : Int) + 128 ≤ (N : Int) := by omega
      have hiw : IntKind.i64.wrap ((i : Int) + 128) = (i : Int) + 128 := IntWalk.i64_in _ (by omega)
      have hiq : (i : Int) / 128 = (j : Int) := by have := Hi.out; omega
      have haj : (a : Int) + (j : Int) ≤ 17592186044416 := by omega
      have haj0 : (0 : Int) ≤ (a : Int) + (j : Int) := by omega
      have hwaj : IntKind.i64.wrap ((a : Int) + (j : Int)) = (a : Int) + (j : Int) := IntWalk.i64_in _ (by omega)
      have hsl := fun W => run_cut (P := Tryz.prog) W 9 l i ((i : Int) + 128) Tryz.underlying9 (by omega) (by omega) (by have := HN.out; omega)
      rw [show cut l (i : Int).toNat (((i : Int) + 128).toNat - (i : Int).toNat) = sect l j by rw [cut, sect, Int.toNat_natCast, show ((i : Int) + 128).toNat - i = 128 by omega, Hi.out]] at hsl
      obtain ⟨A, c, B, d, C, e, R⟩ := hr.cs
      have hb := R.blk
      have hs := R.safe
      have ha := R.ats
      have hw := R.whats
      have hd := R.hd
      have he := R.he
      have hlen := partsOf_length (a : Int) l j
      have hps : partsOf (a : Int) l (j + 1) = partsOf (a : Int) l j ++ [((a : Int) + (j : Int), sect l j)] := rfl
      have hps1 : (partsOf (a : Int) l (j + 1)).map (·.1) = (partsOf (a : Int) l j).map (·.1) ++ [(a : Int) + (j : Int)] := by rw [hps, List.map_append]; rfl
      have hps2 : (partsOf (a : Int) l (j + 1)).map (·.2) = (partsOf (a : Int) l j).map (·.2) ++ [sect l j] := by rw [hps, List.map_append]; rfl
      have Hps1 := Lib.hid hps1
      have Hps2 := Lib.hid hps2
      rw [hlen] at hb ha hw hd he
      have hl1 : ((partsOf (a : Int) l j).map (·.1)).length = j := by rw [List.length_map, hlen]
      have hl2 : ((partsOf (a : Int) l j).map (·.2)).length = j := by rw [List.length_map, hlen]
      clear hr R hps hps1 hps2 hlen
      generalize (partsOf (a : Int) l j).map (·.1) = ats at *
      generalize (partsOf (a : Int) l j).map (·.2) = whats at *
      have d1 : wr.cell? ⟨g, 1, none⟩ = some (.slice B j d) := by rw [cell_of_row _ _ _ _ _ _ hb]; rfl
      have hgl := blk_lt hb
      have Hb := Lib.hid hb
      have Hs := Lib.hid hs
      have Ha := Lib.hid ha
      have Hw := Lib.hid hw
      have Hf := Lib.hid hf
      have Hl1 := Lib.hid hl1
      have Hl2 := Lib.hid hl2
      clear hb hs ha hw hf hl1 hl2
      go_wp2_with (first
        | (at_builtin; refine wpList_append_any _ rfl (.tmp 30) (.tmp 34) 75 rfl wr.heap.size 3 (.int .i64 0) 1 8 Tryz.underlying75 infoInt rfl (by decide) (.slice (some ⟨wr.heap.size, 0, none⟩) 0 0) 0 [] rfl (own_emp _ _ _ (Nat.le_refl _)) B j d (ats.map (Value.int .i64)) rfl (by have h9 := Sl.srds (Ha.out.pu ((Fr.refl _ wr).alloc (.cells #[] 3))); rw [Hl1.out] at h9; exact h9) (one_ints _) (by omega) (by simp) ?_; intro v1 w1 hown1 hgrow1 hat1; rw [Nat.zero_add, List.nil_append] at hown1; obtain ⟨A1, k1, rfl⟩ := own_shape hown1; have Hown1 := Lib.hid hown1; have hp1 : Pu wr w1 := (((Fr.refl _ _).alloc _).grown hgrow1 (fun k hk e => by simp [Value.ownBlock] at e; omega)); have Hp1 := Lib.hid hp1; clear hown1 hgrow1 hat1 hp1)
        | (at_builtin; refine wpList_append_any _ rfl (.tmp 35) (.tmp 40) 75 rfl wr.heap.size 3 (.int .i64 0) 1 8 Tryz.underlying75 infoInt rfl (by decide) (.slice A1 j k1) j (ats.map (Value.int .i64)) rfl (Hown1.out.alloc _) (some ⟨w1.heap.size, 0, none⟩) 1 1 [.int .i64 ((a : Int) + (j : Int))] rfl (rds_new w1 [.int .i64 ((a : Int) + (j : Int))] _ 1 1 rfl) (by simp [Value.oneCell']) (by omega) (by have := Hp1.out.size; simp; omega) ?_; intro v2 w2 hown2 hgrow2 hat2; obtain ⟨A2, k2, rfl⟩ := own_shape hown2; have hp2 : Pu wr w2 := ((Hp1.out.alloc _).grown hgrow2 (fun k hk e => by have := (own_lt Hown1.out _ e).1; omega)); have hb2 := (hp2.block g hgl (fun h => h)).trans Hb.out; have x2 : w2.cell? ⟨g, 1, none⟩ = some (.slice B j d) := (by rw [cell_of_row _ _ _ _ _ _ hb2]; rfl); have f2 : w2.frozen? ⟨g, 1, none⟩ = false := (by simp [World.frozen?, hb2]); have Hh := Lib.hid (half1 Hb.out Hs.out Hw.out hp2 hown2); clear hown2 hgrow2 hat2 hp2 hb2))
      generalize w2.setCell ⟨g, 1, none⟩ (.slice A2 (j + 1) k2) = w3 at *
      obtain ⟨hb3, hs3, ha3, hw3, hf3⟩ := Hh.out
      have d3 : w3.cell? ⟨g, 2, none⟩ = some (.slice C j e) := by rw [cell_of_row _ _ _ _ _ _ hb3]; rfl
      have hgl3 := blk_lt hb3
      have Hb3 := Lib.hid hb3
      have Hs3 := Lib.hid hs3
      have Ha3 := Lib.hid ha3
      have Hw3 := Lib.hid hw3
      have Hf3 := Lib.hid (Hf.out.trans hf3 (fun _ _ h => h))
      clear hb3 hs3 ha3 hw3 hf3 Hh Hown1 Hp1 x2 f2 d1 Hb Hs Ha Hw Hf hgl
      have f3 : w3.frozen? ⟨g, 2, none⟩ = false := by simp [World.frozen?, Hb3.out]
      have hsz3 : w3.heap.size ≠ w3.heap.size + 1 := by omega
      go_region_law
        (first
          | (refine step_append_any (P := Tryz.prog) (w3.alloc (.cells #[] 9)).drew (by rfl) (.tmp 45) (.tmp 49) 74 (by rfl) w3.heap.size 9 (.string ⟨#[]⟩) 1 16 Tryz.underlying74 infoStr (by rfl) (by decide) (.slice (some ⟨w3.heap.size, 0, none⟩) 0 0) 0 [] (by rfl) (own_emp w3 9 _ (Nat.le_refl _)) C j e (whats.map tv) (by rfl) (by have h9 := Sl.srds (Hw3.out.pu (((Fr.refl _ w3).alloc (.cells #[] 9)).drew)); rw [Hl2.out] at h9; exact h9) (one_txts _) (by omega) (by simp) ?_; intro v4 w4 hown4 hgrow4 hat4; rw [Nat.zero_add, List.nil_append] at hown4; obtain ⟨A4, k4, rfl⟩ := own_shape hown4; have hp4 : Pu w3 w4 := ((((Fr.refl _ w3).alloc _).drew).grown hgrow4 (fun k hk e => by simp [Value.ownBlock] at e; omega)); have hk4 : w4.heap[w3.heap.size]? = w4.heap[w3.heap.size]? := rfl; have Hown4 := Lib.hid hown4; have Hp4 := Lib.hid hp4; clear hown4 hgrow4 hat4 hp4)
          | (refine step_append_any (P := Tryz.prog) ((w3.alloc (.cells #[] 9)).alloc (.cells #[.string (str (sect l j))] 9)).drew (by rfl) (.tmp 45) (.tmp 49) 74 (by rfl) w3.heap.size 9 (.string ⟨#[]⟩) 1 16 Tryz.underlying74 infoStr (by rfl) (by decide) (.slice (some ⟨w3.heap.size, 0, none⟩) 0 0) 0 [] (by rfl) ((own_emp w3 9 _ (Nat.le_refl _)).alloc _) C j e (whats.map tv) (by rfl) (by have h9 := Sl.srds (Hw3.out.pu ((((Fr.refl _ w3).alloc (.cells #[] 9)).alloc (.cells #[.string (str (sect l j))] 9)).drew)); rw [Hl2.out] at h9; exact h9) (one_txts _) (by omega) (by simp; omega) ?_; intro v4 w4 hown4 hgrow4 hat4; rw [Nat.zero_add, List.nil_append] at hown4; obtain ⟨A4, k4, rfl⟩ := own_shape hown4; have hp4 : Pu w3 w4 := (((((Fr.refl _ w3).alloc _).alloc _).drew).grown hgrow4 (fun k hk e => by simp [Value.ownBlock] at e; omega)); have hk4 := blkB w3 hgrow4; have Hown4 := Lib.hid hown4; have Hp4 := Lib.hid hp4; clear hown4 hgrow4 hat4 hp4)
          | (refine step_append_any (P := Tryz.prog) ((w3.alloc (.cells #[.string (str (sect l j))] 9)).alloc (.cells #[] 9)).drew (by rfl) (.tmp 45) (.tmp 49) 74 (by rfl) w3.heap.size 9 (.string ⟨#[]⟩) 1 16 Tryz.underlying74 infoStr (by rfl) (by decide) (.slice (some ⟨w3.heap.size + 1, 0, none⟩) 0 0) 0 [] (by rfl) (own_emp1 w3 _ 9) C j e (whats.map tv) (by rfl) (by have h9 := Sl.srds (Hw3.out.pu ((((Fr.refl _ w3).alloc (.cells #[.string (str (sect l j))] 9)).alloc (.cells #[] 9)).drew)); rw [Hl2.out] at h9; exact h9) (one_txts _) (by omega) (by simp; omega) ?_; intro v4 w4 hown4 hgrow4 hat4; rw [Nat.zero_add, List.nil_append] at hown4; obtain ⟨A4, k4, rfl⟩ := own_shape hown4; have hp4 : Pu w3 w4 := (((((Fr.refl _ w3).alloc _).alloc _).drew).grown hgrow4 (fun k hk e => by simp [Value.ownBlock] at e; omega)); have hk4 := blkC w3 hgrow4; have Hown4 := Lib.hid hown4; have Hp4 := Lib.hid hp4; clear hown4 hgrow4 hat4 hp4)
          | (refine step_append_any (P := Tryz.prog) (w4.alloc (.cells #[.string (str (sect l j))] 9)) (by rfl) (.tmp 50) (.tmp 56) 74 (by rfl) w3.heap.size 9 (.string ⟨#[]⟩) 1 16 Tryz.underlying74 infoStr (by rfl) (by decide) (.slice A4 j k4) j (whats.map tv) (by rfl) (Hown4.out.alloc _) (some ⟨w4.heap.size, 0, none⟩) 1 1 [.string (str (sect l j))] (by rfl) (rds_new w4 [.string (str (sect l j))] 9 1 1 (by rfl)) (by simp [Value.oneCell']) (by omega) (by have := Hp4.out.size; simp; omega) ?_; intro v5 w5 hown5 hgrow5 hat5; obtain ⟨A5, k5, rfl⟩ := own_shape hown5; have hp5 : Pu w3 w5 := ((Hp4.out.alloc _).grown hgrow5 (fun k hk e => by have := (own_lt Hown4.out _ e).1; omega)); have hb5 := (hp5.block g hgl3 (fun h => h)).trans Hb3.out; have x5 : w5.cell? ⟨g, 2, none⟩ = some (.slice C j e) := (by rw [cell_of_row _ _ _ _ _ _ hb5]; rfl); have f5 : w5.frozen? ⟨g, 2, none⟩ = false := (by simp [World.frozen?, hb5]); have Hh5 := Lib.hid (half2 Hb3.out Hs3.out Ha3.out hp5 hown5); clear hown5 hgrow5 hat5 hp5 hb5)
          | (refine step_append_any (P := Tryz.prog) w4 (by rfl) (.tmp 50) (.tmp 56) 74 (by rfl) w3.heap.size 9 (.string ⟨#[]⟩) 1 16 Tryz.underlying74 infoStr (by rfl) (by decide) (.slice A4 j k4) j (whats.map tv) (by rfl) Hown4.out (some ⟨w3.heap.size, 0, none⟩) 1 1 [.string (str (sect l j))] (by rfl) (rds_blk hk4) (by simp [Value.oneCell']) (by omega) (by have := Hp4.out.size; omega) ?_; intro v5 w5 hown5 hgrow5 hat5; obtain ⟨A5, k5, rfl⟩ := own_shape hown5; have hp5 : Pu w3 w5 := (Hp4.out.grown hgrow5 (fun k hk e => by have := (own_lt Hown4.out _ e).1; omega)); have hb5 := (hp5.block g hgl3 (fun h => h)).trans Hb3.out; have x5 : w5.cell? ⟨g, 2, none⟩ = some (.slice C j e) := (by rw [cell_of_row _ _ _ _ _ _ hb5]; rfl); have f5 : w5.frozen? ⟨g, 2, none⟩ = false := (by simp [World.frozen?, hb5]); have Hh5 := Lib.hid (half2 Hb3.out Hs3.out Ha3.out hp5 hown5); clear hown5 hgrow5 hat5 hp5 hb5)
          | (refine step_append_any (P := Tryz.prog) w4 (by rfl) (.tmp 50) (.tmp 56) 74 (by rfl) w3.heap.size 9 (.string ⟨#[]⟩) 1 16 Tryz.underlying74 infoStr (by rfl) (by decide) (.slice A4 j k4) j (whats.map tv) (by rfl) Hown4.out (some ⟨w3.heap.size + 1, 0, none⟩) 1 1 [.string (str (sect l j))] (by rfl) (rds_blk hk4) (by simp [Value.oneCell']) (by omega) (by have := Hp4.out.size; omega) ?_; intro v5 w5 hown5 hgrow5 hat5; obtain ⟨A5, k5, rfl⟩ := own_shape hown5; have hp5 : Pu w3 w5 := (Hp4.out.grown hgrow5 (fun k hk e => by have := (own_lt Hown4.out _ e).1; omega)); have hb5 := (hp5.block g hgl3 (fun h => h)).trans Hb3.out; have x5 : w5.cell? ⟨g, 2, none⟩ = some (.slice C j e) := (by rw [cell_of_row _ _ _ _ _ _ hb5]; rfl); have f5 : w5.frozen? ⟨g, 2, none⟩ = false := (by simp [World.frozen?, hb5]); have Hh5 := Lib.hid (half2 Hb3.out Hs3.out Ha3.out hp5 hown5); clear hown5 hgrow5 hat5 hp5 hb5))
      all_goals
        go_wp2
        obtain ⟨hb6, hs6, ha6, hw6, hf6⟩ := Hh5.out
        refine ⟨⟨j + 1, i + 128, by omega, show i + 128 = (j + 1) * 128 by have := Hi.out; omega, by go_num, ⟨_, _, _, hb6, hs6, by rw [Hps1.out]; exact ha6, by rw [Hps2.out]; exact hw6⟩, Hf3.out.trans hf6 (fun _ _ h => h)⟩, by simp [intOf]; omega⟩
    · obtain rfl : j = m := by omega
      have hi1 : ¬ (i : Int) + 128 ≤ (N : Int) := by have := Hi.out; have := Hm.out; omega
      have hiN : i = N := by have := Hi.out; have := Hm.out; omega
      have hiw : IntKind.i64.wrap ((i : Int) + 128) = (i : Int) + 128 := IntWalk.i64_in _ (by omega)
      have HiN := Lib.hid hiN
      have Hr2 := Lib.hid hr
      have Hf := Lib.hid hf
      clear hiN hr hf
      go_wp2
      go_ret
      exact ⟨rfl, Hr2.out, Hf.out⟩
end
end Go.Proofs.YtaendhbiehknlaaGreatDoor
