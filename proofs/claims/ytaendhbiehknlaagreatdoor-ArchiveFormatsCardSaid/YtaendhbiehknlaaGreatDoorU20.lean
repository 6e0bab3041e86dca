/- What is proved here, of the given program: Superblocks: Read, Newest. Superblocks: Newest. -/
import Derived.Test.YtaendhbiehknlaaGreatDoorU19
set_option linter.unusedVariables false
set_option linter.unusedSimpArgs false
set_option linter.constructorNameAsVariable false
namespace Go.Proofs.YtaendhbiehknlaaGreatDoor
open Go.RowKit Go.Shelf Go.Proofs

def cut (b : Bytes) (o n : Nat) : Bytes := (b.drop o).take n
def parseSup (b : Bytes) : Sup := ⟨wrap64 (value (cut b 4 8) : Nat), wrap64 (value (cut b 12 8) : Nat), (value (cut b 20 4) : Nat), (value (cut b 24 4) : Nat), (value (cut b 28 4) : Nat)⟩
def readSup (b : Bytes) (place : Int) : Option Sup := if (parseSup b).right = true ∧ (parseSup b).bytes = b ∧ (parseSup b).gen % 2 = place then some (parseSup b) else none
def Sup.none : Sup := ⟨0, 0, 0, 0, 0⟩
def supOf : Option Sup → Sup × Bool
  | some s => (s, true)
  | .none => (Sup.none, false)
theorem eye_next (l : Bytes) (n : Nat) (h : n ≤ l.length) : Eye.next ⟨l, 0⟩ (n : Int) = (l.take n, ⟨l.drop n, 0⟩) := by
  unfold Eye.next
  rw [if_neg (by simp), if_neg (by omega), if_neg (by simp; omega)]
  simp
theorem eye_num (l : Bytes) (n : Nat) (h : n ≤ l.length) : Eye.num ⟨l, 0⟩ n = (value (l.take n), ⟨l.drop n, 0⟩) := by rw [Eye.num, eye_next l n h]
theorem Fr.new {w w1 w2 : World} {g : Nat} (h : Pu w w1) (h2 : Fr (At g) w1 w2) (hg : w.heap.size ≤ g) : Pu w w2 := h.trans h2 (fun m hm e => by have e : m = g := e; omega)
/-- Five stores into a superblock's own block. -/
theorem set5 {W W' : World} {g : Nat} {a b c d e a' b' c' d' e' : Value} {t : TypeId} {fr : Nat × Nat} (h : W.heap[g]? = some (.cells #[a, b, c, d, e] t fr))
    (hW : W' = ((((W.setCell ⟨g, 0, none⟩ a').setCell ⟨g, 1, none⟩ b').setCell ⟨g, 2, none⟩ c').setCell ⟨g, 3, none⟩ d').setCell ⟨g, 4, none⟩ e') :
    W'.cell? ⟨g, 0, none⟩ = some a' ∧ W'.cell? ⟨g, 1, none⟩ = some b' ∧ W'.cell? ⟨g, 2, none⟩ = some c' ∧ W'.cell? ⟨g, 3, none⟩ = some d' ∧ W'.cell? ⟨g, 4, none⟩ = some e' ∧ Fr (At g) W W' := by
  have h2 : W'.heap[g]? = some (.cells #[a', b', c', d', e'] t fr) := by rw [hW]; simp [World.setCell, Array.getElem?_modify, h]
  refine ⟨?_, ?_, ?_, ?_, ?_, ?_⟩
  · rw [cell_of_row _ _ _ _ _ _ h2]; rfl
  · rw [cell_of_row _ _ _ _ _ _ h2]; rfl
  · rw [cell_of_row _ _ _ _ _ _ h2]; rfl
  · rw [cell_of_row _ _ _ _ _ _ h2]; rfl
  · rw [cell_of_row _ _ _ _ _ _ h2]; rfl
  · rw [hW]
    exact ((((((Fr.refl (At g) W).set ⟨g, 0, none⟩ a' (fun _ => rfl)).set ⟨g, 1, none⟩ b' (fun _ => rfl)).set ⟨g, 2, none⟩ c' (fun _ => rfl)).set ⟨g, 3, none⟩ d' (fun _ => rfl)).set ⟨g, 4, none⟩ e' (fun _ => rfl))
set_option maxRecDepth 100000 in
set_option maxHeartbeats 1000000 in
theorem superRead (v : Value) (b : Bytes) (place : Int) (S : Nat → Prop) (w : World) (hv : Bs S w v b) (hb : b.length = 128) :
    Calls Tryz.prog 287 #[v, .int .i64 place] w fun e w' => e = .returned (.tuple #[(supOf (readSup b place)).1.v, .bool (supOf (readSup b place)).2]) ∧ Pu w w' := by
  have Hv := Lib.hid hv
  have Hb := Lib.hid hb
  clear hv hb
  go_enter Tryz.func287, Tryz.ntmps287
  go_wp2_with fail
  have hp0 : Pu w (w.alloc (.cells #[.int .i64 0, .int .i64 0, .int .i64 0, .int .i64 0, .int .i64 0] 82)) := (Fr.refl _ _).alloc _
  have hb0 := heap_alloc_new w (.cells #[.int .i64 0, .int .i64 0, .int .i64 0, .int .i64 0, .int .i64 0] 82)
  generalize w.alloc (.cells #[.int .i64 0, .int .i64 0, .int .i64 0, .int .i64 0, .int .i64 0] 82) = w0 at *
  have Hp0 := Lib.hid hp0
  have Hb0 := Lib.hid hb0
  have hlt0 := blk_lt hb0
  clear hp0 hb0
  refine (eyeOpen _ b S w0 (Hv.out.pu Hp0.out) (by rw [Hb.out]; omega)).mono ?_
  rintro e w1 ⟨g, rfl, he1, hp1⟩
  have He1 := Lib.hid he1
  have Hp1 := Lib.hid hp1
  clear he1 hp1
  go_wp2_with fail
  refine (eyeRaw w0 g _ 4 w1 He1.out (by rw [Hb.out]; omega)).mono ?_
  rintro e w2 ⟨v2, rfl, ho2, he2, hf2⟩
  obtain ⟨A2, c2, rfl⟩ := own_shape ho2
  have Hf2 := Lib.hid (Fr.new Hp1.out hf2 He1.out.1)
  have He2 := Lib.hid (show EyeIn w0 w2 g ⟨b.drop 4, 0⟩ by have := eye_next b 4 (by rw [Hb.out]; omega); rw [show ((4 : Nat) : Int) = 4 from rfl] at this; rw [this] at he2; exact he2)
  clear ho2 he2 hf2
  go_wp2_with fail
  refine (eyeU64 w0 g _ w2 He2.out).mono ?_
  rintro e w3 ⟨rfl, he3, hf3⟩
  rw [eye_num _ 8 (by rw [List.length_drop, Hb.out]; omega), List.drop_drop] at he3
  rw [eye_num _ 8 (by rw [List.length_drop, Hb.out]; omega)]
  have Hf3 := Lib.hid (Fr.new Hf2.out hf3 He2.out.1)
  have He3 := Lib.hid (show EyeIn w0 w3 g ⟨b.drop 12, 0⟩ from he3)
  clear he3 hf3
  obtain ⟨n1, hn1⟩ : ∃ n, n = value (cut b 4 8) := ⟨_, rfl⟩
  rw [show (value (List.take 8 (List.drop 4 b)), (⟨List.drop 8 (List.drop 4 b), 0⟩ : Eye)).fst = n1 from hn1.symm]
  have Hn1 := Lib.hid hn1
  clear hn1
  go_wp2_with fail
  refine (eyeU64 w0 g _ w3 He3.out).mono ?_
  rintro e w4 ⟨rfl, he4, hf4⟩
  rw [eye_num _ 8 (by rw [List.length_drop, Hb.out]; omega), List.drop_drop] at he4
  rw [eye_num _ 8 (by rw [List.length_drop, Hb.out]; omega)]
  have Hf4 := Lib.hid (Fr.new Hf3.out hf4 He3.out.1)
  have He4 := Lib.hid (show EyeIn w0 w4 g ⟨b.drop 20, 0⟩ from he4)
  clear he4 hf4
  obtain ⟨n2, hn2⟩ : ∃ n, n = value (cut b 12 8) := ⟨_, rfl⟩
  rw [show (value (List.take 8 (List.drop 12 b)), (⟨List.drop 8 (List.drop 12 b), 0⟩ : Eye)).fst = n2 from hn2.symm]
  have Hn2 := Lib.hid hn2
  clear hn2
  go_wp2_with fail
  refine (eyeU32 w0 g _ w4 He4.out).mono ?_
  rintro e w5 ⟨rfl, he5, hf5⟩
  rw [eye_num _ 4 (by rw [List.length_drop, Hb.out]; omega), List.drop_drop] at he5
  rw [eye_num _ 4 (by rw [List.length_drop, Hb.out]; omega)]
  have Hf5 := Lib.hid (Fr.new Hf4.out hf5 He4.out.1)
  have He5 := Lib.hid (show EyeIn w0 w5 g ⟨b.drop 24, 0⟩ from he5)
  clear he5 hf5
  obtain ⟨n3, hn3⟩ : ∃ n, n = value (cut b 20 4) := ⟨_, rfl⟩
  rw [show (value (List.take 4 (List.drop 20 b)), (⟨List.drop 4 (List.drop 20 b), 0⟩ : Eye)).fst = n3 from hn3.symm]
  have Hn3 := Lib.hid hn3
  clear hn3
  go_wp2_with fail
  refine (eyeU32 w0 g _ w5 He5.out).mono ?_
  rintro e w6 ⟨rfl, he6, hf6⟩
  rw [eye_num _ 4 (by rw [List.length_drop, Hb.out]; omega), List.drop_drop] at he6
  rw [eye_num _ 4 (by rw [List.length_drop, Hb.out]; omega)]
  have Hf6 := Lib.hid (Fr.new Hf5.out hf6 He5.out.1)
  have He6 := Lib.hid (show EyeIn w0 w6 g ⟨b.drop 28, 0⟩ from he6)
  clear he6 hf6
  obtain ⟨n4, hn4⟩ : ∃ n, n = value (cut b 24 4) := ⟨_, rfl⟩
  rw [show (value (List.take 4 (List.drop 24 b)), (⟨List.drop 4 (List.drop 24 b), 0⟩ : Eye)).fst = n4 from hn4.symm]
  have Hn4 := Lib.hid hn4
  clear hn4
  go_wp2_with fail
  refine (eyeU32 w0 g _ w6 He6.out).mono ?_
  rintro e w7 ⟨rfl, he7, hf7⟩
  rw [eye_num _ 4 (by rw [List.length_drop, Hb.out]; omega)]
  have Hf7 := Lib.hid (Fr.new Hf6.out hf7 He6.out.1)
  clear he7 hf7
  obtain ⟨n5, hn5⟩ : ∃ n, n = value (cut b 28 4) := ⟨_, rfl⟩
  rw [show (value (List.take 4 (List.drop 28 b)), (⟨List.drop 4 (List.drop 28 b), 0⟩ : Eye)).fst = n5 from hn5.symm]
  have hs : parseSup b = ⟨wrap64 (n1 : Nat), wrap64 (n2 : Nat), (n3 : Nat), (n4 : Nat), (n5 : Nat)⟩ := by
    rw [hn5, Hn1.out, Hn2.out, Hn3.out, Hn4.out]; rfl
  have Hs := Lib.hid hs
  clear hn5 hs
  go_wp2_with fail
  have hwf1 : -9223372036854775808 ≤ wrap64 (n1 : Nat) ∧ wrap64 (n1 : Nat) ≤ 9223372036854775807 := by unfold wrap64; omega
  generalize wrap64 (n1 : Nat) = G1 at *
  generalize wrap64 (n2 : Nat) = G2 at *
  obtain ⟨s, hs⟩ : ∃ s, s = parseSup b := ⟨_, rfl⟩
  have hsv : s.v = .agg #[.int .i64 G1, .int .i64 G2, .int .i64 (n3 : Nat), .int .i64 (n4 : Nat), .int .i64 (n5 : Nat)] := by rw [hs, Hs.out]; rfl
  have hsg : s.gen = G1 := by rw [hs, Hs.out]
  have hrd : readSup b place = if s.right = true ∧ s.bytes = b ∧ s.gen % 2 = place then some s else none := by rw [hs]; rfl
  rw [hsg] at hrd
  have hp8 : Pu w7 (w7.alloc (.cells #[.int .i64 G1, .int .i64 G2, .int .i64 (n3 : Nat), .int .i64 (n4 : Nat), .int .i64 (n5 : Nat)] 82)) := (Fr.refl _ _).alloc _
  have hb8 := heap_alloc_new w7 (.cells #[.int .i64 G1, .int .i64 G2, .int .i64 (n3 : Nat), .int .i64 (n4 : Nat), .int .i64 (n5 : Nat)] 82)
  have Hb8 := Lib.hid hb8
  have Hp8 := Lib.hid hp8
  have HpA := Lib.hid ((Hp0.out.pu Hf7.out).pu hp8)
  have HbA := Lib.hid (((Hf7.out.pu hp8).block _ hlt0 (fun h => h)).trans Hb0.out)
  have HvA := Lib.hid (Hv.out.pu HpA.out)
  have Hsz0 := Lib.hid (Nat.le_trans Hp0.out.size Hf7.out.size)
  have Hrd := Lib.hid hrd
  have Hsv := Lib.hid hsv
  have H7 := Lib.hid (Nat.lt_of_lt_of_le hlt0 Hf7.out.size)
  clear hp8 hb8 hrd hsv hsg hs Hs He6 He5 He4 He3 He2 He1 Hf2 Hf3 Hf4 Hf5 Hf6 Hn1 Hn2 Hn3 Hn4 hwf1
  cases hr : s.right
  · refine ((Hsv.out ▸ superOctetsNo s _ hr : Calls Tryz.prog 76 #[.agg #[.int .i64 G1, .int .i64 G2, .int .i64 (n3 : Nat), .int .i64 (n4 : Nat), .int .i64 (n5 : Nat)]] _ _)).mono ?_
    rintro e w9 ⟨rfl, hp9⟩
    have hz := (hp9.block _ (by have := H7.out; simp; omega) (fun h => h)).trans HbA.out
    have f0 : ∀ i, w9.frozen? ⟨w.heap.size, i, none⟩ = false := fun i => by simp [World.frozen?, hz]
    have z0 : w9.cell? ⟨w.heap.size, 0, none⟩ = some (.int .i64 0) := by rw [cell_of_row _ _ _ _ _ _ hz]; rfl
    have z1 : w9.cell? ⟨w.heap.size, 1, none⟩ = some (.int .i64 0) := by rw [cell_of_row _ _ _ _ _ _ hz]; rfl
    have z2 : w9.cell? ⟨w.heap.size, 2, none⟩ = some (.int .i64 0) := by rw [cell_of_row _ _ _ _ _ _ hz]; rfl
    have z3 : w9.cell? ⟨w.heap.size, 3, none⟩ = some (.int .i64 0) := by rw [cell_of_row _ _ _ _ _ _ hz]; rfl
    have z4 : w9.cell? ⟨w.heap.size, 4, none⟩ = some (.int .i64 0) := by rw [cell_of_row _ _ _ _ _ _ hz]; rfl
    have hzl := blk_lt hz
    have Hz := Lib.hid hz
    have Hp9 := Lib.hid (HpA.out.pu hp9)
    have Hr := Lib.hid hr
    clear hz hp9 hr
    go_wp2
    have hno : readSup b place = none := by rw [Hrd.out, if_neg]; rw [Hr.out]; simp
    rw [hno]
    obtain ⟨wz, hwz⟩ : ∃ wz, wz = ((((w9.setCell ⟨w.heap.size, 0, none⟩ (.int .i64 0)).setCell ⟨w.heap.size, 1, none⟩ (.int .i64 0)).setCell ⟨w.heap.size, 2, none⟩ (.int .i64 0)).setCell ⟨w.heap.size, 3, none⟩ (.int .i64 0)).setCell ⟨w.heap.size, 4, none⟩ (.int .i64 0) := ⟨_, rfl⟩
    rw [← hwz]
    obtain ⟨x0, x1, x2, x3, x4, hfz⟩ := set5 Hz.out hwz
    have hpz := Fr.new Hp9.out hfz (Nat.le_refl _)
    clear hwz z0 z1 z2 z3 z4 f0
    exact bodyPost_ret (v := .tuple #[.agg #[.int .i64 0, .int .i64 0, .int .i64 0, .int .i64 0, .int .i64 0], .bool false]) (by simp [results, Tryz.results287, go_sem, x0, x1, x2, x3, x4]) rfl ⟨rfl, hpz⟩
  · refine ((Hsv.out ▸ superOctets s _ hr : Calls Tryz.prog 76 #[.agg #[.int .i64 G1, .int .i64 G2, .int .i64 (n3 : Nat), .int .i64 (n4 : Nat), .int .i64 (n5 : Nat)]] _ _)).mono ?_
    rintro e w9 ⟨v9, rfl, ho9, hp9⟩
    obtain ⟨A9, c9, rfl⟩ := own_shape ho9
    have hz := (hp9.block _ (by have := H7.out; simp; omega) (fun h => h)).trans HbA.out
    have f0 : ∀ i, w9.frozen? ⟨w.heap.size, i, none⟩ = false := fun i => by simp [World.frozen?, hz]
    have z0 : w9.cell? ⟨w.heap.size, 0, none⟩ = some (.int .i64 0) := by rw [cell_of_row _ _ _ _ _ _ hz]; rfl
    have z1 : w9.cell? ⟨w.heap.size, 1, none⟩ = some (.int .i64 0) := by rw [cell_of_row _ _ _ _ _ _ hz]; rfl
    have z2 : w9.cell? ⟨w.heap.size, 2, none⟩ = some (.int .i64 0) := by rw [cell_of_row _ _ _ _ _ _ hz]; rfl
    have z3 : w9.cell? ⟨w.heap.size, 3, none⟩ = some (.int .i64 0) := by rw [cell_of_row _ _ _ _ _ _ hz]; rfl
    have z4 : w9.cell? ⟨w.heap.size, 4, none⟩ = some (.int .i64 0) := by rw [cell_of_row _ _ _ _ _ _ hz]; rfl
    have hs9 := (hp9.block _ (by simp) (fun h => h)).trans Hb8.out
    have y0 : w9.cell? ⟨w7.heap.size, 0, none⟩ = some (.int .i64 G1) := by rw [cell_of_row _ _ _ _ _ _ hs9]; rfl
    have y1 : w9.cell? ⟨w7.heap.size, 1, none⟩ = some (.int .i64 G2) := by rw [cell_of_row _ _ _ _ _ _ hs9]; rfl
    have y2 : w9.cell? ⟨w7.heap.size, 2, none⟩ = some (.int .i64 (n3 : Nat)) := by rw [cell_of_row _ _ _ _ _ _ hs9]; rfl
    have y3 : w9.cell? ⟨w7.heap.size, 3, none⟩ = some (.int .i64 (n4 : Nat)) := by rw [cell_of_row _ _ _ _ _ _ hs9]; rfl
    have y4 : w9.cell? ⟨w7.heap.size, 4, none⟩ = some (.int .i64 (n5 : Nat)) := by rw [cell_of_row _ _ _ _ _ _ hs9]; rfl
    have hzl := blk_lt hz
    have hrr := (s.right_iff.1 hr).1
    have hg1 : s.gen = G1 := by
      have h1 := Hsv.out
      unfold Sup.v at h1
      injection h1 with h1
      injection h1 with h1
      injection h1 with h1
      injection h1 with _ h1
    rw [hg1] at hrr
    have hG0 : 0 ≤ G1 := by omega
    have hG9 : G1 ≤ 9223372036854775807 := by omega
    have Hz := Lib.hid hz
    have HvB := Lib.hid (HvA.out.pu hp9)
    have Hp9 := Lib.hid (HpA.out.pu hp9)
    have Ho9 := Lib.hid ho9
    have Hr := Lib.hid hr
    clear hz hp9 hr ho9 hs9 hrr hg1
    by_cases hbb : s.bytes = b
    · have hbe : (s.bytes == b) = true := by simpa using hbb
      have Hbb := Lib.hid hbb
      clear hbb
      by_cases hpl : G1 % 2 = place
      · have hplB : (G1 % 2 != place) = false := by simpa using hpl
        have Hpl := Lib.hid hpl
        clear hpl
        go_wp2_with fail
        refine (bytesEqual _ _ s.bytes b _ _ w9 (Bs.own Ho9.out) HvB.out).mono ?_
        rintro e w' ⟨rfl, rfl⟩
        rw [hbe]
        go_wp2
        have hyes : readSup b place = some s := by rw [Hrd.out, if_pos]; exact ⟨Hr.out, Hbb.out, Hpl.out⟩
        have hres : (supOf (some s)).1.v = .agg #[.int .i64 G1, .int .i64 G2, .int .i64 (n3 : Nat), .int .i64 (n4 : Nat), .int .i64 (n5 : Nat)] := Hsv.out
        rw [hyes, hres]
        obtain ⟨wz, hwz⟩ : ∃ wz, wz = ((((w9.setCell ⟨w.heap.size, 0, none⟩ (.int .i64 G1)).setCell ⟨w.heap.size, 1, none⟩ (.int .i64 G2)).setCell ⟨w.heap.size, 2, none⟩ (.int .i64 (n3 : Nat))).setCell ⟨w.heap.size, 3, none⟩ (.int .i64 (n4 : Nat))).setCell ⟨w.heap.size, 4, none⟩ (.int .i64 (n5 : Nat)) := ⟨_, rfl⟩
        rw [← hwz]
        obtain ⟨x0, x1, x2, x3, x4, hfz⟩ := set5 Hz.out hwz
        have hpz := Fr.new Hp9.out hfz (Nat.le_refl _)
        clear hwz z0 z1 z2 z3 z4 f0 y0 y1 y2 y3 y4
        exact bodyPost_ret (v := .tuple #[.agg #[.int .i64 G1, .int .i64 G2, .int .i64 (n3 : Nat), .int .i64 (n4 : Nat), .int .i64 (n5 : Nat)], .bool true]) (by simp [results, Tryz.results287, go_sem, x0, x1, x2, x3, x4]) rfl ⟨rfl, hpz⟩
      · have hplB : (G1 % 2 != place) = true := by simpa using hpl
        have Hpl := Lib.hid hpl
        clear hpl
        go_wp2_with fail
        refine (bytesEqual _ _ s.bytes b _ _ w9 (Bs.own Ho9.out) HvB.out).mono ?_
        rintro e w' ⟨rfl, rfl⟩
        rw [hbe]
        go_wp2
        have hno : readSup b place = none := by rw [Hrd.out, if_neg]; exact fun h => Hpl.out h.2.2
        rw [hno]
        obtain ⟨wz, hwz⟩ : ∃ wz, wz = ((((w9.setCell ⟨w.heap.size, 0, none⟩ (.int .i64 0)).setCell ⟨w.heap.size, 1, none⟩ (.int .i64 0)).setCell ⟨w.heap.size, 2, none⟩ (.int .i64 0)).setCell ⟨w.heap.size, 3, none⟩ (.int .i64 0)).setCell ⟨w.heap.size, 4, none⟩ (.int .i64 0) := ⟨_, rfl⟩
        rw [← hwz]
        obtain ⟨x0, x1, x2, x3, x4, hfz⟩ := set5 Hz.out hwz
        have hpz := Fr.new Hp9.out hfz (Nat.le_refl _)
        clear hwz z0 z1 z2 z3 z4 f0
        exact bodyPost_ret (v := .tuple #[.agg #[.int .i64 0, .int .i64 0, .int .i64 0, .int .i64 0, .int .i64 0], .bool false]) (by simp [results, Tryz.results287, go_sem, x0, x1, x2, x3, x4]) rfl ⟨rfl, hpz⟩
    · have hbe : (s.bytes == b) = false := by simpa using hbb
      have Hbb := Lib.hid hbb
      clear hbb
      go_wp2_with fail
      refine (bytesEqual _ _ s.bytes b _ _ w9 (Bs.own Ho9.out) HvB.out).mono ?_
      rintro e w' ⟨rfl, rfl⟩
      rw [hbe]
      go_wp2
      have hno : readSup b place = none := by rw [Hrd.out, if_neg]; exact fun h => Hbb.out h.2.1
      rw [hno]
      obtain ⟨wz, hwz⟩ : ∃ wz, wz = ((((w9.setCell ⟨w.heap.size, 0, none⟩ (.int .i64 0)).setCell ⟨w.heap.size, 1, none⟩ (.int .i64 0)).setCell ⟨w.heap.size, 2, none⟩ (.int .i64 0)).setCell ⟨w.heap.size, 3, none⟩ (.int .i64 0)).setCell ⟨w.heap.size, 4, none⟩ (.int .i64 0) := ⟨_, rfl⟩
      rw [← hwz]
      obtain ⟨x0, x1, x2, x3, x4, hfz⟩ := set5 Hz.out hwz
      have hpz := Fr.new Hp9.out hfz (Nat.le_refl _)
      clear hwz z0 z1 z2 z3 z4 f0
      exact bodyPost_ret (v := .tuple #[.agg #[.int .i64 0, .int .i64 0, .int .i64 0, .int .i64 0, .int .i64 0], .bool false]) (by simp [results, Tryz.results287, go_sem, x0, x1, x2, x3, x4]) rfl ⟨rfl, hpz⟩
end Go.Proofs.YtaendhbiehknlaaGreatDoor

namespace Go.Proofs.YtaendhbiehknlaaGreatDoor
open Go.RowKit Go.Shelf Go.Proofs

def newer : Option Sup → Option Sup → Option Sup
  | some t, some s => if s.gen < t.gen then some t else some s
  | some t, .none => some t
  | .none, x => x
def newestSup (b : Bytes) : Option Sup := newer (readSup (cut b 128 128) 1) (readSup (b.take 128) 0)
theorem newer_spec (r1 r0 : Option Sup) : supOf (newer r1 r0) = if (supOf r1).2 = true ∧ ((supOf r0).2 = false ∨ (supOf r0).1.gen < (supOf r1).1.gen) then supOf r1 else supOf r0 := by
  cases r1 with
  | none => simp [supOf, newer]
  | some t =>
    cases r0 with
    | none => simp [supOf, newer]
    | some s =>
      by_cases h : s.gen < t.gen
      · simp [supOf, newer, h]
      · simp [supOf, newer, h]
/-- A superblock's block: its cells, free. -/
theorem sup_block {W : World} {g : Nat} {a b c d e : Value} {t : TypeId} (h : W.heap[g]? = some (.cells #[a, b, c, d, e] t (0, 0))) :
    W.cell? ⟨g, 0, none⟩ = some a ∧ W.cell? ⟨g, 1, none⟩ = some b ∧ W.cell? ⟨g, 2, none⟩ = some c ∧ W.cell? ⟨g, 3, none⟩ = some d ∧ W.cell? ⟨g, 4, none⟩ = some e ∧ (∀ i, W.frozen? ⟨g, i, none⟩ = false) := by
  refine ⟨?_, ?_, ?_, ?_, ?_, fun i => by simp [World.frozen?, h]⟩ <;> (rw [cell_of_row _ _ _ _ _ _ h]; rfl)
theorem sup_shape (s : Sup) : s.v = .agg #[.int .i64 s.gen, .int .i64 s.boot, .int .i64 s.slots, .int .i64 s.segs, .int .i64 s.size] := rfl
set_option maxRecDepth 100000 in
set_option maxHeartbeats 1000000 in
theorem superNewest (v : Value) (b : Bytes) (S : Nat → Prop) (w : World) (hv : Bs S w v b) (hb : b.length = 256) :
    Calls Tryz.prog 209 #[v] w fun e w' => e = .returned (.tuple #[(supOf (newestSup b)).1.v, .bool (supOf (newestSup b)).2]) ∧ Pu w w' := by
  obtain ⟨A, c, rfl, hc, hm⟩ := hv.shape
  obtain ⟨bb, oo, rfl, _, _, _⟩ := Bs.cells hv (by rintro rfl; simp at hb)
  have h1 : Bs S w (.slice (some ⟨bb, oo, none⟩) 128 c) (b.take 128) := Bs.take hv (by omega) (by omega) hm
  have h2 : Bs S w (.slice (some ⟨bb, oo + 128, none⟩) 128 (c - 128)) (cut b 128 128) := by
    have h3 := Bs.drop (k := 128) hv (by omega)
    rw [if_neg (by omega)] at h3
    have h4 := Bs.take (k := 128) (c' := c - 128) h3 (by rw [List.length_drop]; omega) (by omega) (by omega)
    simpa [Addr.add_lit, cut] using h4
  have C1 := Lib.hid (fun (W : World) (hp : Pu w W) => superRead (.slice (some ⟨bb, oo, none⟩) 128 c) (b.take 128) 0 S W (h1.pu hp) (by rw [List.length_take]; omega))
  have C2 := Lib.hid (fun (W : World) (hp : Pu w W) => superRead (.slice (some ⟨bb, oo + 128, none⟩) 128 (c - 128)) (cut b 128 128) 1 S W (h2.pu hp) (by rw [cut, List.length_take, List.length_drop]; omega))
  rw [hb] at hc ⊢
  have hn : newestSup b = newer (readSup (cut b 128 128) 1) (readSup (b.take 128) 0) := by unfold newestSup; rfl
  generalize readSup (b.take 128) 0 = r0 at *
  generalize readSup (cut b 128 128) 1 = r1 at *
  have hn := congrArg supOf hn
  rw [newer_spec] at hn
  have Hn := Lib.hid hn
  clear h1 h2 hv hn hb
  have z5 : ∀ (W : World), Pu w W → Hid (Pu w W) := fun _ h => h
  go_enter Tryz.func209, Tryz.ntmps209
  go_wp2_with fail
  have hp0 : Pu w (w.alloc (.cells #[.int .i64 0, .int .i64 0, .int .i64 0, .int .i64 0, .int .i64 0] 82)) := (Fr.refl _ _).alloc _
  have hb0 := heap_alloc_new w (.cells #[.int .i64 0, .int .i64 0, .int .i64 0, .int .i64 0, .int .i64 0] 82)
  generalize w.alloc (.cells #[.int .i64 0, .int .i64 0, .int .i64 0, .int .i64 0, .int .i64 0] 82) = w0 at *
  refine (C1.out w0 hp0).mono ?_
  rintro e w1 ⟨rfl, hp1⟩
  have Hb1 := Lib.hid ((hp1.block _ (blk_lt hb0) (fun h => h)).trans hb0)
  have Hp1 := Lib.hid (hp0.pu hp1)
  clear hp0 hb0 hp1 C1
  have hs0 := sup_shape (supOf r0).1
  generalize supOf r0 = q0 at *
  obtain ⟨⟨g0, b0, s0, n0, y0⟩, k0⟩ := q0
  dsimp only at hs0
  rw [hs0]
  clear hs0
  go_wp2_with fail
  have hb4 := heap_alloc_new w1 (.cells #[.int .i64 g0, .int .i64 b0, .int .i64 s0, .int .i64 n0, .int .i64 y0] 82)
  have hp4 : Pu w1 (w1.alloc (.cells #[.int .i64 g0, .int .i64 b0, .int .i64 s0, .int .i64 n0, .int .i64 y0] 82)) := (Fr.refl _ _).alloc _
  generalize w1.alloc (.cells #[.int .i64 g0, .int .i64 b0, .int .i64 s0, .int .i64 n0, .int .i64 y0] 82) = w2 at *
  refine (C2.out w2 (Hp1.out.pu hp4)).mono ?_
  rintro e w3 ⟨rfl, hp3⟩
  have Hb3 := Lib.hid ((hp3.block _ (blk_lt hb4) (fun h => h)).trans hb4)
  have Hb1' := Lib.hid (((hp4.pu hp3).block _ (blk_lt Hb1.out) (fun h => h)).trans Hb1.out)
  have Hp3 := Lib.hid ((Hp1.out.pu hp4).pu hp3)
  clear hb4 hp4 hp3 C2
  have ht0 := sup_shape (supOf r1).1
  generalize supOf r1 = q1 at *
  obtain ⟨⟨g1, b1, s1, n1, y1⟩, k1⟩ := q1
  dsimp only at ht0
  rw [ht0]
  clear ht0
  have hB := blk_lt Hb3.out
  have hA := blk_lt Hb1'.out
  have hsz1 := Hp1.out.size
  obtain ⟨v0, v1, v2, v3, v4, -⟩ := sup_block Hb3.out
  obtain ⟨t0, t1, t2, t3, t4, f0⟩ := sup_block Hb1'.out
  clear z5 hn
  dsimp only at Hn
  cases k1
  · have hfin : supOf (newestSup b) = (⟨g0, b0, s0, n0, y0⟩, k0) := by rw [Hn.out]; simp
    have Hfin := Lib.hid hfin
    clear hfin
    go_wp2
    obtain ⟨wz, hwz⟩ : ∃ wz, wz = ((((w3.setCell ⟨w.heap.size, 0, none⟩ (.int .i64 g0)).setCell ⟨w.heap.size, 1, none⟩ (.int .i64 b0)).setCell ⟨w.heap.size, 2, none⟩ (.int .i64 s0)).setCell ⟨w.heap.size, 3, none⟩ (.int .i64 n0)).setCell ⟨w.heap.size, 4, none⟩ (.int .i64 y0) := ⟨_, rfl⟩
    rw [← hwz]
    obtain ⟨x0, x1, x2, x3, x4, hfz⟩ := set5 Hb1'.out hwz
    have hlz := World.block_lt_of_cell? wz _ x0
    have hlz : w.heap.size < wz.heap.size := hlz
    have hpz : Pu w (wz.alloc (.cells #[.int .i64 g1, .int .i64 b1, .int .i64 s1, .int .i64 n1, .int .i64 y1] 82)) := (Fr.new Hp3.out hfz (Nat.le_refl _)).alloc _
    clear hwz t0 t1 t2 t3 t4 v0 v1 v2 v3 v4 f0
    rw [Hfin.out]
    exact bodyPost_ret (v := .tuple #[.agg #[.int .i64 g0, .int .i64 b0, .int .i64 s0, .int .i64 n0, .int .i64 y0], .bool k0]) (by simp [results, Tryz.results209, go_sem, x0, x1, x2, x3, x4, hlz]) rfl ⟨rfl, hpz⟩
  · cases k0
    · have hfin : supOf (newestSup b) = (⟨g1, b1, s1, n1, y1⟩, true) := by rw [Hn.out]; simp
      have Hfin := Lib.hid hfin
      clear hfin
      go_wp2
      obtain ⟨wz, hwz⟩ : ∃ wz, wz = ((((w3.setCell ⟨w.heap.size, 0, none⟩ (.int .i64 g1)).setCell ⟨w.heap.size, 1, none⟩ (.int .i64 b1)).setCell ⟨w.heap.size, 2, none⟩ (.int .i64 s1)).setCell ⟨w.heap.size, 3, none⟩ (.int .i64 n1)).setCell ⟨w.heap.size, 4, none⟩ (.int .i64 y1) := ⟨_, rfl⟩
      rw [← hwz]
      obtain ⟨x0, x1, x2, x3, x4, hfz⟩ := set5 Hb1'.out hwz
      have hlz := World.block_lt_of_cell? wz _ x0
      have hlz : w.heap.size < wz.heap.size := hlz
      have hpz : Pu w (wz.alloc (.cells #[.int .i64 g1, .int .i64 b1, .int .i64 s1, .int .i64 n1, .int .i64 y1] 82)) := (Fr.new Hp3.out hfz (Nat.le_refl _)).alloc _
      clear hwz t0 t1 t2 t3 t4 v0 v1 v2 v3 v4 f0
      rw [Hfin.out]
      exact bodyPost_ret (v := .tuple #[.agg #[.int .i64 g1, .int .i64 b1, .int .i64 s1, .int .i64 n1, .int .i64 y1], .bool true]) (by simp [results, Tryz.results209, go_sem, x0, x1, x2, x3, x4, hlz]) rfl ⟨rfl, hpz⟩
    · by_cases hlt : g0 < g1
      · have hfin : supOf (newestSup b) = (⟨g1, b1, s1, n1, y1⟩, true) := by rw [Hn.out]; simp [hlt]
        have Hfin := Lib.hid hfin
        clear hfin
        go_wp2
        obtain ⟨wz, hwz⟩ : ∃ wz, wz = ((((w3.setCell ⟨w.heap.size, 0, none⟩ (.int .i64 g1)).setCell ⟨w.heap.size, 1, none⟩ (.int .i64 b1)).setCell ⟨w.heap.size, 2, none⟩ (.int .i64 s1)).setCell ⟨w.heap.size, 3, none⟩ (.int .i64 n1)).setCell ⟨w.heap.size, 4, none⟩ (.int .i64 y1) := ⟨_, rfl⟩
        rw [← hwz]
        obtain ⟨x0, x1, x2, x3, x4, hfz⟩ := set5 Hb1'.out hwz
        have hlz := World.block_lt_of_cell? wz _ x0
        have hlz : w.heap.size < wz.heap.size := hlz
        have hpz : Pu w (wz.alloc (.cells #[.int .i64 g1, .int .i64 b1, .int .i64 s1, .int .i64 n1, .int .i64 y1] 82)) := (Fr.new Hp3.out hfz (Nat.le_refl _)).alloc _
        clear hwz t0 t1 t2 t3 t4 v0 v1 v2 v3 v4 f0
        rw [Hfin.out]
        exact bodyPost_ret (v := .tuple #[.agg #[.int .i64 g1, .int .i64 b1, .int .i64 s1, .int .i64 n1, .int .i64 y1], .bool true]) (by simp [results, Tryz.results209, go_sem, x0, x1, x2, x3, x4, hlz]) rfl ⟨rfl, hpz⟩
      · have hfin : supOf (newestSup b) = (⟨g0, b0, s0, n0, y0⟩, true) := by rw [Hn.out]; simp [hlt]
        have Hfin := Lib.hid hfin
        clear hfin
        go_wp2
        obtain ⟨wz, hwz⟩ : ∃ wz, wz = ((((w3.setCell ⟨w.heap.size, 0, none⟩ (.int .i64 g0)).setCell ⟨w.heap.size, 1, none⟩ (.int .i64 b0)).setCell ⟨w.heap.size, 2, none⟩ (.int .i64 s0)).setCell ⟨w.heap.size, 3, none⟩ (.int .i64 n0)).setCell ⟨w.heap.size, 4, none⟩ (.int .i64 y0) := ⟨_, rfl⟩
        rw [← hwz]
        obtain ⟨x0, x1, x2, x3, x4, hfz⟩ := set5 Hb1'.out hwz
        have hlz := World.block_lt_of_cell? wz _ x0
        have hlz : w.heap.size < wz.heap.size := hlz
        have hpz : Pu w (wz.alloc (.cells #[.int .i64 g1, .int .i64 b1, .int .i64 s1, .int .i64 n1, .int .i64 y1] 82)) := (Fr.new Hp3.out hfz (Nat.le_refl _)).alloc _
        clear hwz t0 t1 t2 t3 t4 v0 v1 v2 v3 v4 f0
        rw [Hfin.out]
        exact bodyPost_ret (v := .tuple #[.agg #[.int .i64 g0, .int .i64 b0, .int .i64 s0, .int .i64 n0, .int .i64 y0], .bool true]) (by simp [results, Tryz.results209, go_sem, x0, x1, x2, x3, x4, hlz]) rfl ⟨rfl, hpz⟩
end Go.Proofs.YtaendhbiehknlaaGreatDoor
