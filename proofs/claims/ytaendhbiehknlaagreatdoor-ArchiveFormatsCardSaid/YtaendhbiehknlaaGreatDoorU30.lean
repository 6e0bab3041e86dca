/- What is proved here, of the given program: The log of an empty region: Open, Texts. -/
import Derived.Test.YtaendhbiehknlaaGreatDoorU27
set_option linter.unusedVariables false
set_option linter.unusedSimpArgs false
set_option linter.constructorNameAsVariable false
namespace Go.Proofs.YtaendhbiehknlaaGreatDoor
open Go.RowKit Go.Shelf Go.Proofs

theorem log_more {w : World} {g d f s size : Nat} {vb vt vc : Value} {last used clean sure : Int} (h : LogAt w g d f s size vb last used clean vt vc sure) :
    w.cell? ⟨g, 7, none⟩ = some (.int .i64 clean) ∧ w.cell? ⟨g, 10, none⟩ = some (.int .i64 sure) := by
  unfold LogAt at h
  refine ⟨?_, ?_⟩ <;> (rw [cell_of_row _ _ _ _ _ _ h]; rfl)
abbrev LS (w1 : World) (g d f s size : Nat) (vb vc : Value) (w' : World) : Prop := w'.cell? ⟨g, 0, none⟩ = some (.pointer (some ⟨d, 0, none⟩)) ∧ w'.cell? ⟨g, 1, none⟩ = some (.int .i64 f) ∧ w'.cell? ⟨g, 2, none⟩ = some (.int .i64 s) ∧ w'.cell? ⟨g, 3, none⟩ = some (.int .i64 size) ∧ w'.cell? ⟨g, 5, none⟩ = some (.int .i64 0) ∧ w'.cell? ⟨g, 6, none⟩ = some (.int .i64 0) ∧ w'.cell? ⟨g, 8, none⟩ = some (.slice none 0 0) ∧ w'.cell? ⟨g, 7, none⟩ = some (.int .i64 0) ∧ w'.cell? ⟨g, 10, none⟩ = some (.int .i64 0) ∧ w'.frozen? ⟨g, 7, none⟩ = false ∧ w'.frozen? ⟨g, 10, none⟩ = false ∧ LogAt w' g d f s size vb 0 0 0 (.slice none 0 0) vc 0 ∧ Fr (At g) w1 w'
theorem LS.of {w1 : World} {g d f s size : Nat} {vb vc : Value} {w' : World} (h : LogAt w' g d f s size vb 0 0 0 (.slice none 0 0) vc 0) (hf : Fr (At g) w1 w') : LS w1 g d f s size vb vc w' := by
  obtain ⟨c0, c1, c2, c3, -, c5, c6, c8, -, cf⟩ := log_cells h
  obtain ⟨c7, c10⟩ := log_more h
  exact ⟨c0, c1, c2, c3, c5, c6, c8, c7, c10, cf 7, cf 10, h, hf⟩
theorem LS.at_ {w1 : World} {g d f s size : Nat} {vb vc : Value} {w' : World} (h : LS w1 g d f s size vb vc w') : LogAt w' g d f s size vb 0 0 0 (.slice none 0 0) vc 0 := h.2.2.2.2.2.2.2.2.2.2.2.1
theorem LS.frm {w1 : World} {g d f s size : Nat} {vb vc : Value} {w' : World} (h : LS w1 g d f s size vb vc w') : Fr (At g) w1 w' := h.2.2.2.2.2.2.2.2.2.2.2.2
theorem LS.pu {w1 : World} {g d f s size : Nat} {vb vc : Value} {w w' : World} (hp : Pu w w') (h : LS w1 g d f s size vb vc w) : LS w1 g d f s size vb vc w' := LS.of (h.at_.fr hp (fun h => h)) (h.frm.trans hp.any (fun _ _ h => h))
theorem LS.drew {w1 : World} {g d f s size : Nat} {vb vc : Value} {w : World} (h : LS w1 g d f s size vb vc w) : LS w1 g d f s size vb vc w.drew := LS.pu (Fr.refl _ _).drew h
theorem LS.set7 {w1 : World} {g d f s size : Nat} {vb vc : Value} {w : World} (h : LS w1 g d f s size vb vc w) : LS w1 g d f s size vb vc (w.setCell ⟨g, 7, none⟩ (.int .i64 0)) := by
  have h1 := h.at_
  unfold LogAt at h1
  refine LS.of ?_ (h.frm.set _ _ (fun _ => rfl))
  unfold LogAt
  simp only [World.setCell, Array.getElem?_modify, if_pos, h1, Option.map_some]
  rfl
theorem LS.set10 {w1 : World} {g d f s size : Nat} {vb vc : Value} {w : World} (h : LS w1 g d f s size vb vc w) : LS w1 g d f s size vb vc (w.setCell ⟨g, 10, none⟩ (.int .i64 0)) := by
  have h1 := h.at_
  unfold LogAt at h1
  refine LS.of ?_ (h.frm.set _ _ (fun _ => rfl))
  unfold LogAt
  simp only [World.setCell, Array.getElem?_modify, if_pos, h1, Option.map_some]
  rfl
theorem LogAt.set4 {w : World} {g d f s size : Nat} {vb vt vc : Value} {last used clean sure : Int} (v : Value) (h : LogAt w g d f s size vb last used clean vt vc sure) : LogAt (w.setCell ⟨g, 4, none⟩ v) g d f s size v last used clean vt vc sure := by
  unfold LogAt at h ⊢
  simp only [World.setCell, Array.getElem?_modify, if_pos, h, Option.map_some]
  rfl
theorem Fr.same {w w' : World} {g d f s size : Nat} {vb vt vc : Value} {last used clean sure : Int} (hf : Fr (At g) w w') (h : LogAt w g d f s size vb last used clean vt vc sure) (h' : LogAt w' g d f s size vb last used clean vt vc sure) : Pu w w' :=
  ⟨hf.os, hf.tape, hf.output, hf.size, fun k hk _ => by
    by_cases e : k = g
    · subst e; exact h'.trans h.symm
    · exact hf.block k hk e⟩
theorem Fr.pu' {S : Nat → Prop} {w w1 w2 : World} (h : Fr S w w1) (hp : Pu w1 w2) : Fr S w w2 := h.trans (hp.any : Fr S w1 w2) (fun _ _ h => h)
/-- A log that tells no text. -/
def LogNil (w : World) (g : Nat) : Prop := w.cell? ⟨g, 8, none⟩ = some (.slice none 0 0)
theorem LogNil.lt {w : World} {g : Nat} (h : LogNil w g) : g < w.heap.size := World.block_lt_of_cell? w _ h
theorem LogNil.pu {w w1 : World} {g : Nat} (h : LogNil w g) (hp : Pu w w1) : LogNil w1 g := (hp.pcell g _ h.lt).trans h
theorem logEndAt (g d f s size : Nat) (vb vc : Value) (w : World) (hs : size ≤ 1000) (h : LogAt w g d f s size vb 0 0 0 (.slice none 0 0) vc 0) :
    Calls Tryz.prog 139 #[.pointer (some ⟨g, 0, none⟩)] w fun e w' => e = .returned (.int .i64 0) ∧ Pu w w' := by
  obtain ⟨c0, c1, c2, c3, -, c5, c6, -, -, -⟩ := log_cells h
  exact logEndZero g d f s size w hs c0 c1 c2 c3 c5 c6
set_option maxRecDepth 100000 in
set_option maxHeartbeats 1000000 in
theorem logTextsNil (g : Nat) (w : World) (h : LogNil w g) :
    Calls Tryz.prog 61 #[.pointer (some ⟨g, 0, none⟩)] w fun e w' => e = .returned (.slice none 0 0) ∧ w = w' := by
  unfold LogNil at h
  go_enter Tryz.func61, Tryz.ntmps61
  go_wp2
  refine wp_loop_rounds 1 ?_
  rw [rounds_succ]
  go_wp2
  go_ret
  exact ⟨rfl, rfl⟩
set_option maxRecDepth 100000 in
set_option maxHeartbeats 2000000 in
theorem logOpenZero (gd f s size : Nat) (img : Bytes) (calls : Int) (w : World) (hs : 1 ≤ s ∧ s ≤ 256) (hz : 2 ≤ size ∧ size ≤ 512) (hf : f ≤ 1000) (hd : DiskNil w gd img calls) (hc : calls < 0) (hl : img.length ≤ 17592186044416) (ht : f + s * size ≤ img.length / 128) (hi : (img.drop (f * 128)).take (s * size * 128) = zeros (s * size * 128)) :
    Calls Tryz.prog 82 #[.pointer (some ⟨gd, 0, none⟩), .int .i64 f, .int .i64 s, .int .i64 size] w fun e w' => ∃ g, e = .returned (.tuple #[.pointer (some ⟨g, 0, none⟩), .nilIface]) ∧ LogNil w' g ∧ w.heap.size ≤ g ∧ DiskNil w' gd img calls ∧ Fr (At gd) w w' := by
  have hgd : gd < w.heap.size := hd.at_.lt
  have hss : 1 ≤ s * size ∧ s * size ≤ 131072 := ⟨Nat.mul_pos (by omega) (by omega), Nat.le_trans (Nat.mul_le_mul hs.2 hz.2) (by decide)⟩
  obtain ⟨n, hn⟩ : ∃ n, n = s * size * 128 := ⟨_, rfl⟩
  rw [← hn] at hi
  obtain ⟨w1, hrun, ho1, hp1⟩ := run_zeros w 32 (by omega)
  have hrun : (Instr.makeSlice 23 (.int .i64 32) (.int .i64 32)).run Tryz.prog w = .ok (.slice (some ⟨w.heap.size, 0, none⟩) 32 32) w1 := hrun
  have hb2 := heap_alloc_new w1 (.cells #[.pointer (some ⟨gd, 0, none⟩), .int .i64 f, .int .i64 s, .int .i64 size, .slice none 0 0, .int .i64 0, .int .i64 0, .int .i64 0, .slice none 0 0, .slice (some ⟨w.heap.size, 0, none⟩) 32 32, .int .i64 0, .bool false, .bool false] 222)
  have hp2 : Pu w1 (w1.alloc (.cells #[.pointer (some ⟨gd, 0, none⟩), .int .i64 f, .int .i64 s, .int .i64 size, .slice none 0 0, .int .i64 0, .int .i64 0, .int .i64 0, .slice none 0 0, .slice (some ⟨w.heap.size, 0, none⟩) 32 32, .int .i64 0, .bool false, .bool false] 222)) := (Fr.refl _ _).alloc _
  have Hp1 := Lib.hid hp1
  have Ho1 := Lib.hid ho1
  have Hd := Lib.hid hd
  have Hss := Lib.hid hss
  have Ht := Lib.hid ht
  have Hi := Lib.hid hi
  have Hn := Lib.hid hn
  have hs1 := hs.1
  have hs2 := hs.2
  have hz1 := hz.1
  have hz2 := hz.2
  have hmul : IntKind.i64.wrap ((s : Int) * (size : Int)) = ((s * size : Nat) : Int) := by rw [← Int.natCast_mul]; exact IntWalk.i64_in _ (by omega)
  clear hp1 ho1 hd hss ht hi hn hs hz
  go_enter Tryz.func82, Tryz.ntmps82
  go_wp2_with fail
  generalize w1.alloc (.cells #[.pointer (some ⟨gd, 0, none⟩), .int .i64 f, .int .i64 s, .int .i64 size, .slice none 0 0, .int .i64 0, .int .i64 0, .int .i64 0, .slice none 0 0, .slice (some ⟨w.heap.size, 0, none⟩) 32 32, .int .i64 0, .bool false, .bool false] 222) = w2 at *
  have hl2 : LogAt w2 w1.heap.size gd f s size (.slice none 0 0) 0 0 0 (.slice none 0 0) (.slice (some ⟨w.heap.size, 0, none⟩) 32 32) 0 := hb2
  have Hl2 := Lib.hid hl2
  have Hp2 := Lib.hid (Hp1.out.pu hp2)
  have Ho2 := Lib.hid (own_pu Ho1.out hp2)
  have Hg := Lib.hid Hp1.out.size
  clear hp2 hb2 hl2 hrun
  have hR := diskRead gd img [] calls f (s * size) w2 (Hd.out.pu Hp2.out).at_ (fun x hx => by simp at hx) hl hc (by omega) (by have := Hss.out; omega) ((thereB_iff _ _ _).2 (by have := Ht.out; omega))
  rw [show ((lay img []).drop (f * 128)).take (s * size * 128) = zeros n from by rw [← Hn.out]; exact Hi.out, ← Hn.out] at hR
  refine hR.mono ?_
  rintro e w3 ⟨v3, rfl, ho3, hp3⟩
  obtain ⟨A3, c3, rfl, hc3, hm3⟩ := own_shape2 ho3
  have hn0 : 0 < n := by rw [Hn.out]; have := Hss.out; omega
  obtain ⟨gb, kb, e1⟩ := own_form ho3 hn0
  injection e1 with e1 _ e2
  subst e1 e2
  have hl3 := Hl2.out.fr hp3 (fun h => h)
  have hvc : w.heap.size < w1.heap.size := (own_lt Ho1.out _ rfl).2
  clear Ho1
  generalize w1.heap.size = g at *
  obtain ⟨-, -, -, -, x4, -, -, -, -, xf⟩ := log_cells hl3
  have xf4 := xf 4
  have Hl3 := Lib.hid hl3
  have Hp3 := Lib.hid (Hp2.out.pu hp3)
  have Ho3 := Lib.hid ho3
  have Hc3 := Lib.hid (own_pu Ho2.out hp3)
  have Hgb := Lib.hid (Hp2.out.size)
  have hgb2 : w2.heap.size ≤ gb := (own_lt ho3 gb rfl).1
  have hgl2 : g < w2.heap.size := blk_lt Hl2.out
  have hne : gb ≠ g := by omega
  clear hp3 ho3 hl3 hR xf
  go_wp2_with fail
  have hf4 : Fr (At g) w3 (w3.setCell ⟨g, 4, none⟩ (.slice (some ⟨gb, 0, none⟩) n c3)) := (Fr.refl _ _).set _ _ (fun _ => rfl)
  have hl4 := Hl3.out.set4 (.slice (some ⟨gb, 0, none⟩) n c3)
  generalize w3.setCell ⟨g, 4, none⟩ (.slice (some ⟨gb, 0, none⟩) n c3) = w4 at *
  have Hl4 := Lib.hid hl4
  have Hp4 := Lib.hid (Fr.new Hp3.out hf4 Hg.out)
  have Hb4 := Lib.hid (own_move Ho3.out (fun k hk => hf4.block k (own_lt Ho3.out k hk).2 (fun e => by have e : k = g := e; have h9 := (own_lt Ho3.out k hk).1; omega)))
  have Hc4 := Lib.hid (own_move Hc3.out (fun k hk => hf4.block k (own_lt Hc3.out k hk).2 (fun e => by have e : k = g := e; have h9 : some w.heap.size = some k := hk; injection h9 with h9; omega)))
  clear hf4 hl4 x4 xf4 Hc3 Ho3 Hl3 Hl2
  refine (logScanZero g gd f s size _ _ n _ _ w4 ⟨hs1, hs2⟩ ⟨hz1, hz2⟩ Hn.out Hl4.out (Bs.own Hb4.out) (Bs.own Hc4.out)).mono ?_
  rintro e w5 ⟨rfl, hp5⟩
  have Hl5 := Lib.hid (Hl4.out.fr hp5 (fun h => h))
  have Hb5 := Lib.hid (own_pu Hb4.out hp5)
  have Hp5 := Lib.hid (Hp4.out.pu hp5)
  clear hp5
  go_wp2_with fail
  refine (logTrimZero w g gd gb f s size w.heap.size _ _ n img calls w5 ⟨hs1, hs2⟩ ⟨hz1, hz2⟩ hf Hn.out Hl5.out (own_base Hb5.out Hgb.out) Hd.out Hp5.out (by have := Hgb.out; omega) Hg.out hne hc hl Ht.out Hi.out).mono ?_
  rintro e w6 ⟨rfl, hl6, hd6, hf6, hs6⟩
  have Hd6 := Lib.hid hd6
  have Hf6 := Lib.hid hf6
  have Hl6 := Lib.hid hl6
  clear hd6 hf6 hl6
  go_wp2_with fail
  have hgl6 : g < w6.heap.size := blk_lt Hl6.out
  have hL : LS w6 g gd f s size (.slice (some ⟨gb, 0, none⟩) n c3) (.slice (some ⟨w.heap.size, 0, none⟩) 32 32) w6 := LS.of Hl6.out (Fr.refl _ _)
  clear hrun Hp1 Ho2 Hp2 Hp3 Hgb hs6 Hl5 Hb5 Hp5 Hl4 Hp4 Hb4 Hc4 Ht Hi Hn Hss hgb2 hgl2 hn0
  go_region_held3 (fun w' => w'.cell? ⟨g, 0, none⟩ = some (.pointer (some ⟨gd, 0, none⟩)) ∧ w'.cell? ⟨g, 1, none⟩ = some (.int .i64 f) ∧ w'.cell? ⟨g, 2, none⟩ = some (.int .i64 s) ∧ w'.cell? ⟨g, 3, none⟩ = some (.int .i64 size) ∧ w'.cell? ⟨g, 5, none⟩ = some (.int .i64 0) ∧ w'.cell? ⟨g, 6, none⟩ = some (.int .i64 0) ∧ w'.cell? ⟨g, 8, none⟩ = some (.slice none 0 0) ∧ w'.cell? ⟨g, 7, none⟩ = some (.int .i64 0) ∧ w'.cell? ⟨g, 10, none⟩ = some (.int .i64 0) ∧ w'.frozen? ⟨g, 7, none⟩ = false ∧ w'.frozen? ⟨g, 10, none⟩ = false ∧ LogAt w' g gd f s size (.slice (some ⟨gb, 0, none⟩) n c3) 0 0 0 (.slice none 0 0) (.slice (some ⟨w.heap.size, 0, none⟩) 32 32) 0 ∧ Fr (At g) w6 w')
    (first | with_reducible exact hL | with_reducible exact hk | with_reducible exact LS.drew hL | with_reducible exact LS.set10 (by assumption) | with_reducible exact LS.set7 (by assumption))
    (first | (go_at_call 139; refine (logEndAt g gd f s size _ _ _ (by omega) (LS.at_ (w1 := w6) (g := g) (d := gd) (f := f) (s := s) (size := size) (vb := (.slice (some ⟨gb, 0, none⟩) n c3)) (vc := (.slice (some ⟨w.heap.size, 0, none⟩) 32 32)) (by assumption))).mono ?_; rintro e w7 ⟨rfl, hp7⟩; have hk := LS.pu (w1 := w6) (g := g) (d := gd) (f := f) (s := s) (size := size) (vb := (.slice (some ⟨gb, 0, none⟩) n c3)) (vc := (.slice (some ⟨w.heap.size, 0, none⟩) 32 32)) hp7 (by assumption); have Hp7 := Lib.hid hp7; clear hp7))
  all_goals
    rename_i hHeld
    have HA := Lib.hid (LS.at_ (w1 := w6) (g := g) (d := gd) (f := f) (s := s) (size := size) (vb := (.slice (some ⟨gb, 0, none⟩) n c3)) (vc := (.slice (some ⟨w.heap.size, 0, none⟩) 32 32)) hHeld)
    have HF := Lib.hid (LS.frm (w1 := w6) (g := g) (d := gd) (f := f) (s := s) (size := size) (vb := (.slice (some ⟨gb, 0, none⟩) n c3)) (vc := (.slice (some ⟨w.heap.size, 0, none⟩) 32 32)) hHeld)
    have HP := Lib.hid (Fr.same HF.out Hl6.out HA.out)
    clear hHeld
    go_wp2
    go_ret2
    exact ⟨g, rfl, (log_cells HA.out).2.2.2.2.2.2.2.1, Hg.out, Hd6.out.pu HP.out, Hf6.out.pu' HP.out⟩
end Go.Proofs.YtaendhbiehknlaaGreatDoor
