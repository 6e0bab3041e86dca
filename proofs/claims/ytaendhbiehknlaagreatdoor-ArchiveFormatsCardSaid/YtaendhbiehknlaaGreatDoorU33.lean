/- What is proved here, of the given program: The document's disk (ref10): New, there, on, See, Image, Read. The document's disk (ref10): Image, Read. -/
import Derived.Test.YtaendhbiehknlaaGreatDoorU28
set_option linter.unusedVariables false
set_option linter.unusedSimpArgs false
set_option linter.constructorNameAsVariable false
namespace Go.Proofs.YtaendhbiehknlaaGreatDoor
open Go.RowKit Go.Shelf Go.Proofs

def tv (l : Bytes) : Value := .string (str l)
def Kd.txt : Kd Bytes := .scalar tv (fun _ => rfl)
section
variable {α : Type} {enc : α → Value} {h1 : ∀ x, (enc x).oneCell' = true}
/-- Element j of a slice of one-cell values. -/
theorem Sl.scell {S : Nat → Prop} {w : World} {A : Option Addr} {n c : Nat} {l : List α} (h : Sl (Kd.scalar enc h1) S w (.slice A n c) l) {j : Nat} {x : α} (hj : l[j]? = some x) : ∃ b o, A = some ⟨b, o, none⟩ ∧ S b ∧ b < w.heap.size ∧ w.cell? ⟨b, o + j, none⟩ = some (enc x) := by
  obtain ⟨b, o, cs, e, hb, hlt, hk, hc⟩ := h.at_ hj
  have hk : cs = [enc x] := hk
  subst hk
  exact ⟨b, o, e, hb, hlt, by have := hc 0 _ rfl; simpa [Kd.scalar] using this⟩
theorem Sl.srds {S : Nat → Prop} {w : World} {A : Option Addr} {n c : Nat} {l : List α} (h : Sl (Kd.scalar enc h1) S w (.slice A n c) l) : Rds w 1 A l.length (l.map enc) := by
  refine ⟨by simp, fun hn => ?_⟩
  obtain ⟨A', c2, e, _, _, h3⟩ := id h
  injection e with e1 e2 e3
  subst e1
  obtain ⟨b, o, rfl, hb, hlt, _⟩ := h3 (by rintro rfl; simp at hn)
  refine ⟨_, rfl, fun j u hu => ?_⟩
  obtain ⟨x, hx, rfl⟩ : ∃ x, l[j]? = some x ∧ enc x = u := by
    simp only [List.getElem?_map] at hu
    exact Option.map_eq_some_iff.1 hu
  obtain ⟨b', o', e', _, _, hc⟩ := h.scell hx
  injection e' with e'
  injection e' with e1 e2
  subst e1 e2
  rw [Addr.add_lit]
  exact hc
theorem Sl.of_srow {w : World} {base n : Nat} {e : TypeId} {v : Value} {l : List α} (h : w.ownsRow base e 1 v n (l.map enc)) : Sl (Kd.scalar enc h1) (fun k => v.ownBlock = some k) w v l := by
  have hl : l.length = n := by have := h.1; simpa using this
  rcases h.2 with ⟨rfl, h0⟩ | ⟨g, cap, cur, rfl, hb, hg, hn, hm, hs, ht⟩
  · obtain rfl : l = [] := List.eq_nil_of_length_eq_zero (by omega)
    exact Sl.nil _ _ _
  · refine ⟨_, cap, by rw [hl], by omega, hm, fun _ => ⟨g, 0, rfl, rfl, (Array.getElem?_eq_some_iff.1 hg).1, fun j x hj => ⟨[enc x], rfl, fun i u hu => ?_⟩⟩⟩
    have hi : i = 0 := by
      have := (List.getElem?_eq_some_iff.1 hu).1
      simp at this
      omega
    subst hi
    obtain rfl : enc x = u := by simpa using hu
    have := h.cells (g := g) rfl j (enc x) (by simp [hj])
    simpa [Kd.scalar, Addr.add_lit] using this
end
abbrev Ts (S : Nat → Prop) (w : World) (v : Value) (l : List Bytes) : Prop := Sl Kd.txt S w v l
abbrev Ns (S : Nat → Prop) (w : World) (v : Value) (l : List Int) : Prop := Sl (Kd.int .i64) S w v l
/-- The document's disk at block g: power without end. -/
def RefAt (w : World) (g : Nat) (img : Bytes) (q : List (Int × Bytes)) : Prop :=
  ∃ vs va vw, w.heap[g]? = some (.cells #[vs, va, vw, .int .i64 (-1)] 77 (0, 0)) ∧ Ts (fun k => k ≠ g) w vs (secs img) ∧ Ns (fun k => k ≠ g) w va (q.map (·.1)) ∧ Ts (fun k => k ≠ g) w vw (q.map (·.2))
section
variable {w w1 : World} {g : Nat} {img : Bytes} {q : List (Int × Bytes)}
theorem RefAt.lt (h : RefAt w g img q) : g < w.heap.size := by
  obtain ⟨_, _, _, h, _⟩ := h
  exact blk_lt h
theorem RefAt.pu (h : RefAt w g img q) (hp : Pu w w1) : RefAt w1 g img q := by
  obtain ⟨vs, va, vw, h1, h2, h3, h4⟩ := h
  exact ⟨vs, va, vw, (hp.block g (blk_lt h1) (fun h => h)).trans h1, h2.pu hp, h3.pu hp, h4.pu hp⟩
/-- What the walk reads of it. -/
structure RefC (w : World) (g : Nat) (img : Bytes) (q : List (Int × Bytes)) (A : Option Addr) (c : Nat) (B : Option Addr) (d : Nat) (C : Option Addr) (e : Nat) : Prop where
  blk : w.heap[g]? = some (.cells #[.slice A (img.length / 128) c, .slice B q.length d, .slice C q.length e, .int .i64 (-1)] 77 (0, 0))
  c0 : w.cell? ⟨g, 0, none⟩ = some (.slice A (img.length / 128) c)
  c1 : w.cell? ⟨g, 1, none⟩ = some (.slice B q.length d)
  c2 : w.cell? ⟨g, 2, none⟩ = some (.slice C q.length e)
  c3 : w.cell? ⟨g, 3, none⟩ = some (.int .i64 (-1))
  fr : ∀ i, w.frozen? ⟨g, i, none⟩ = false
  safe : Ts (fun k => k ≠ g) w (.slice A (img.length / 128) c) (secs img)
  ats : Ns (fun k => k ≠ g) w (.slice B q.length d) (q.map (·.1))
  whats : Ts (fun k => k ≠ g) w (.slice C q.length e) (q.map (·.2))
  hc : img.length / 128 ≤ c ∧ c ≤ 9223372036854775807
  hd : q.length ≤ d ∧ d ≤ 9223372036854775807
  he : q.length ≤ e ∧ e ≤ 9223372036854775807
theorem RefAt.cs (h : RefAt w g img q) : ∃ A c B d C e, RefC w g img q A c B d C e := by
  obtain ⟨vs, va, vw, h1, h2, h3, h4⟩ := h
  obtain ⟨A, c, rfl, hc1, hc2⟩ := h2.shape
  obtain ⟨B, d, rfl, hd1, hd2⟩ := h3.shape
  obtain ⟨C, e, rfl, he1, he2⟩ := h4.shape
  rw [secs_length] at h1 h2 hc1
  simp only [List.length_map] at h1 h3 h4 hd1 he1
  exact ⟨A, c, B, d, C, e, h1, by rw [cell_of_row _ _ _ _ _ _ h1]; rfl, by rw [cell_of_row _ _ _ _ _ _ h1]; rfl, by rw [cell_of_row _ _ _ _ _ _ h1]; rfl, by rw [cell_of_row _ _ _ _ _ _ h1]; rfl, fun i => by simp [World.frozen?, h1], by simpa [List.length_map] using h2, h3, h4, ⟨hc1, hc2⟩, ⟨hd1, hd2⟩, ⟨he1, he2⟩⟩
theorem refOn (h : RefAt w g img q) : Calls Tryz.prog 78 #[.pointer (some ⟨g, 0, none⟩)] w fun e w' => e = .returned (.bool true) ∧ w = w' := by
  obtain ⟨A, c, B, d, C, e, R⟩ := h.cs
  have c3 := R.c3
  clear h R
  go_enter Tryz.func78, Tryz.ntmps78
  go_wp2
  go_ret
  exact ⟨rfl, rfl⟩
theorem refThere (h : RefAt w g img q) (a m : Int) (hl : img.length ≤ 17592186044416) (ha : -9223372036854775808 ≤ a ∧ a ≤ 9223372036854775807) :
    Calls Tryz.prog 77 #[.pointer (some ⟨g, 0, none⟩), .int .i64 a, .int .i64 m] w fun e w' => e = .returned (.bool (thereB (img.length / 128) a m)) ∧ w = w' := by
  obtain ⟨A, c, B, d, C, e, R⟩ := h.cs
  have c0 := R.c0
  clear h R
  have hn : img.length / 128 ≤ 17592186044416 := by omega
  clear hl
  generalize img.length / 128 = n at *
  by_cases h1 : 0 ≤ m
  · by_cases h2 : 0 ≤ a
    · by_cases h3 : a ≤ (n : Int)
      · have H := Lib.hid (show thereB n a m = decide (m ≤ (n : Int) - a) by simp [thereB, h1, h2, h3])
        go_enter Tryz.func77, Tryz.ntmps77
        go_wp2
        go_ret
        exact ⟨congrArg (fun b => Ending.returned (Value.bool b)) H.out.symm, rfl⟩
      · have H := Lib.hid (show thereB n a m = false by simp [thereB, h3])
        go_enter Tryz.func77, Tryz.ntmps77
        go_wp2
        go_ret
        exact ⟨congrArg (fun b => Ending.returned (Value.bool b)) H.out.symm, rfl⟩
    · have H := Lib.hid (show thereB n a m = false by simp [thereB, h2])
      go_enter Tryz.func77, Tryz.ntmps77
      go_wp2
      go_ret
      exact ⟨congrArg (fun b => Ending.returned (Value.bool b)) H.out.symm, rfl⟩
  · have H := Lib.hid (show thereB n a m = false by simp [thereB, h1])
    go_enter Tryz.func77, Tryz.ntmps77
    go_wp2
    go_ret
    exact ⟨congrArg (fun b => Ending.returned (Value.bool b)) H.out.symm, rfl⟩
set_option maxRecDepth 100000 in
set_option maxHeartbeats 1000000 in
/-- A sector by the latest writes. -/
theorem refSee (h : RefAt w g img q) (hq : QOk img.length q) (i : Nat) (hi : i < img.length / 128) (hl : img.length ≤ 17592186044416) :
    Calls Tryz.prog 55 #[.pointer (some ⟨g, 0, none⟩), .int .i64 i] w fun e w' => e = .returned (tv (sect (lay img q) i)) ∧ w = w' := by
  obtain ⟨A, c, B, d, C, e, R⟩ := h.cs
  obtain ⟨b, o, rfl, -, hbl, y0⟩ := R.safe.scell (secs_get img i hi)
  have c0 := R.c0
  have c1 := R.c1
  have c2 := R.c2
  have hc := R.hc
  have hd := R.hd
  have he := R.he
  have Ha := Lib.hid R.ats
  have Hw := Lib.hid R.whats
  have Hs := Lib.hid (sect_lay q img i hq)
  clear h R hq
  unfold tv at y0 ⊢
  go_enter Tryz.func55, Tryz.ntmps55
  go_wp2
  go_loop [5, 6] (fun s k => ∃ j : Nat, j ≤ q.length ∧ k = .int .i64 j ∧ s = .string (str (seeAt (q.take j) (sect img i) i))) (fun _ k => q.length - (intOf k).toNat)
  case atStart => exact ⟨0, Nat.zero_le _, rfl, rfl⟩
  case round =>
    obtain ⟨j, hj, rfl, rfl⟩ := hrel
    by_cases hlt : j < q.length
    · have hss := Lib.hid (seeAt_take_succ q (sect img i) i j hlt)
      obtain ⟨b1, o1, rfl, -, hbl1, y1⟩ := Ha.out.scell (j := j) (x := (q[j]).1) (by rw [List.getElem?_map, List.getElem?_eq_getElem hlt]; rfl)
      obtain ⟨b2, o2, rfl, -, hbl2, y2⟩ := Hw.out.scell (j := j) (x := (q[j]).2) (by rw [List.getElem?_map, List.getElem?_eq_getElem hlt]; rfl)
      unfold tv at y2
      generalize (q[j]).2 = x2 at *
      generalize (q[j]).1 = x1 at *
      by_cases he1 : x1 = (i : Int)
      · have hb : (x1 == (i : Int)) = true := by simp [he1]
        have He1 := Lib.hid he1
        clear he1
        go_wp2
        refine ⟨⟨j + 1, by omega, by go_num, ?_⟩, by simp [intOf]; omega⟩
        rw [hss.out, if_pos He1.out]
      · have hb : (x1 == (i : Int)) = false := by simp [he1]
        have He1 := Lib.hid he1
        clear he1
        go_wp2
        refine ⟨⟨j + 1, by omega, by go_num, ?_⟩, by simp [intOf]; omega⟩
        rw [hss.out, if_neg He1.out]
    · obtain rfl : j = q.length := by omega
      go_wp2
      go_ret
      rw [Hs.out]
      exact ⟨rfl, rfl⟩
end
end Go.Proofs.YtaendhbiehknlaaGreatDoor

namespace Go.Proofs.YtaendhbiehknlaaGreatDoor
open Go.RowKit Go.Shelf Go.Proofs

theorem take_sect (L : Bytes) (a j : Nat) : (L.drop (a * 128)).take (j * 128) ++ sect L (a + j) = (L.drop (a * 128)).take ((j + 1) * 128) := by
  rw [show (j + 1) * 128 = j * 128 + 128 by omega, List.take_add, List.drop_drop, sect, show (a + j) * 128 = a * 128 + j * 128 by omega]
section
variable {w w1 : World} {g : Nat} {img : Bytes} {q : List (Int × Bytes)}
set_option maxRecDepth 100000 in
set_option maxHeartbeats 1000000 in
theorem refImage (h : RefAt w g img q) (hq : QOk img.length q) (hl : img.length ≤ 17592186044416) (hm : img.length % 128 = 0) :
    Calls Tryz.prog 13 #[.pointer (some ⟨g, 0, none⟩)] w fun e w' => e = .returned (tv (lay img q)) ∧ w = w' := by
  obtain ⟨A, c, B, d, C, e, R⟩ := h.cs
  have c0 := R.c0
  have hc := R.hc
  have hlay := lay_length img q hq
  have Hlay := Lib.hid hlay
  have HC := Lib.hid (fun i hi => refSee h hq i hi hl)
  clear h R hq hlay
  generalize lay img q = L at *
  have Hm := Lib.hid hm
  clear hm
  unfold tv at HC ⊢
  go_enter Tryz.func13, Tryz.ntmps13
  go_wp2
  go_loop [3, 4] (fun s k => ∃ j : Nat, j ≤ img.length / 128 ∧ k = .int .i64 j ∧ s = .string (str (L.take (j * 128)))) (fun _ k => img.length / 128 - (intOf k).toNat)
  case atStart => exact ⟨0, Nat.zero_le _, rfl, by simp; rfl⟩
  case round =>
    obtain ⟨j, hj, rfl, rfl⟩ := hrel
    by_cases hlt : j < img.length / 128
    · have hadd := fun W => run_add_str (P := Tryz.prog) W (L.take (j * 128)) (sect L j) (by rw [List.length_take, sect, List.length_take, List.length_drop]; omega)
      have hts := Lib.hid (take_sect L 0 j)
      go_wp2_with fail
      refine (HC.out j hlt).mono ?_
      rintro e w' ⟨rfl, rfl⟩
      go_wp2
      refine ⟨⟨j + 1, by omega, by go_num, ?_⟩, by simp [intOf]; omega⟩
      have h1 := hts.out
      simp only [Nat.zero_mul, List.drop_zero, Nat.zero_add] at h1
      rw [h1]
    · obtain rfl : j = img.length / 128 := by omega
      go_wp2
      go_ret
      have h1 := Hlay.out
      have h2 := Hm.out
      rw [List.take_of_length_le (by omega)]
      exact ⟨rfl, rfl⟩
set_option maxRecDepth 100000 in
set_option maxHeartbeats 1000000 in
theorem refRead (h : RefAt w g img q) (hq : QOk img.length q) (hl : img.length ≤ 17592186044416) (a m : Nat) (ha : a ≤ 1099511627776) (hm : m ≤ 1099511627776) (ht : thereB (img.length / 128) a m = true) :
    Calls Tryz.prog 88 #[.pointer (some ⟨g, 0, none⟩), .int .i64 a, .int .i64 m] w fun e w' => e = .returned (.tuple #[tv (((lay img q).drop (a * 128)).take (m * 128)), .int .i64 0]) ∧ w = w' := by
  have C1 := Lib.hid (refThere h a m hl (by omega))
  rw [ht] at C1
  have C2 := Lib.hid (refOn h)
  have hb := (thereB_iff _ _ _).1 ht
  have hlay := lay_length img q hq
  have Hlay := Lib.hid hlay
  have HC := Lib.hid (fun i hi => refSee h hq i hi hl)
  clear h hq hlay ht
  generalize lay img q = L at *
  have Hb := Lib.hid (show a + m ≤ img.length / 128 by omega)
  clear hb
  unfold tv at HC ⊢
  go_enter Tryz.func88, Tryz.ntmps88
  go_wp2_with fail
  refine C1.out.mono ?_
  rintro e w' ⟨rfl, rfl⟩
  go_wp2_with fail
  refine C2.out.mono ?_
  rintro e w' ⟨rfl, rfl⟩
  go_wp2_with fail
  go_loop [8, 9] (fun s k => ∃ j : Nat, j ≤ m ∧ k = .int .i64 j ∧ s = .string (str ((L.drop (a * 128)).take (j * 128)))) (fun _ k => m - (intOf k).toNat)
  case atStart => exact ⟨0, Nat.zero_le _, rfl, by simp; rfl⟩
  case round =>
    obtain ⟨j, hj, rfl, rfl⟩ := hrel
    by_cases hlt : j < m
    · have hadd := fun W => run_add_str (P := Tryz.prog) W ((L.drop (a * 128)).take (j * 128)) (sect L (a + j)) (by have := Hb.out; rw [List.length_take, sect, List.length_take]; omega)
      have hts := Lib.hid (take_sect L a j)
      obtain ⟨k, hk⟩ : ∃ k, k = a + j := ⟨_, rfl⟩
      rw [← hk] at hadd
      have hts := Lib.hid (show (L.drop (a * 128)).take (j * 128) ++ sect L k = (L.drop (a * 128)).take ((j + 1) * 128) by rw [hk]; exact hts.out)
      have hs2 : (a : Int) + (j : Int) = (k : Int) := by omega
      have hs : IntKind.i64.wrap (k : Int) = (k : Int) := IntWalk.i64_in _ (by omega)
      have hkl : k < img.length / 128 := by have := Hb.out; omega
      clear hk
      go_wp2_with fail
      refine (HC.out k hkl).mono ?_
      rintro e w' ⟨rfl, rfl⟩
      go_wp2
      refine ⟨⟨j + 1, by omega, by go_num, ?_⟩, by simp [intOf]; omega⟩
      rw [hts.out]
    · obtain rfl : j = m := by omega
      go_wp2
      go_ret2
      exact ⟨rfl, rfl⟩
theorem refReadNo (h : RefAt w g img q) (hl : img.length ≤ 17592186044416) (a m : Int) (ha : -9223372036854775808 ≤ a ∧ a ≤ 9223372036854775807) (ht : thereB (img.length / 128) a m = false) :
    Calls Tryz.prog 88 #[.pointer (some ⟨g, 0, none⟩), .int .i64 a, .int .i64 m] w fun e w' => e = .returned (.tuple #[.string ⟨#[]⟩, .int .i64 20]) ∧ w = w' := by
  have C1 := Lib.hid (refThere h a m hl ha)
  rw [ht] at C1
  clear h
  go_enter Tryz.func88, Tryz.ntmps88
  go_wp2_with fail
  refine C1.out.mono ?_
  rintro e w' ⟨rfl, rfl⟩
  go_wp2
  go_ret2
  exact ⟨rfl, rfl⟩
end
end Go.Proofs.YtaendhbiehknlaaGreatDoor
