/- What is proved here, of the given program: The key derivation: Label, Derive. -/
import Derived.Test.YtaendhbiehknlaaGreatDoorU11
import Derived.Laws.IdiomStrings
import Derived.Laws.Concat
set_option linter.unusedVariables false
set_option linter.unusedSimpArgs false
set_option linter.constructorNameAsVariable false
namespace Go.Proofs.YtaendhbiehknlaaGreatDoor
open Go.RowKit Go.Shelf Go.Proofs

theorem bs_row (w : World) (C : Array Value) (t : TypeId) (fr : Nat × Nat) (l : Bytes) (c : Nat) (hc : l.length ≤ c) (hm : c ≤ 9223372036854775807) (h : ∀ (j : Nat) (u : Value), (u8s l)[j]? = some u → C[j]? = some u) : Bs (fun k => k = w.heap.size) (w.alloc (.cells C t fr)) (.slice (some ⟨w.heap.size, 0, none⟩) l.length c) l :=
  ⟨_, c, rfl, hc, by simpa [maxLen] using hm, fun _ => ⟨w.heap.size, 0, rfl, rfl, by simp, fun j x hj => ⟨[u8v x], rfl, fun i u hu => by
    have hi : i = 0 := by
      have := (List.getElem?_eq_some_iff.1 hu).1
      simp at this
      omega
    subst hi
    obtain rfl : u8v x = u := by simpa using hu
    rw [cell_of_row _ _ _ _ _ _ (heap_alloc_new _ _)]
    have := h j (u8v x) (by simp [u8s, hj])
    simpa [Kd.u8, Kd.scalar] using this⟩⟩⟩
/-- []byte(s) of a text. -/
theorem run_to_bytes {P : Program} (w : World) (src dst e : TypeId) (l : Bytes) (hl : l.length ≤ 17592186044416) (hs : P.underlying src = some .string) (hd : P.underlying dst = some (.slice e)) (he : P.underlying e = some (.int .u8)) :
    ∃ c w', (convert src dst (.string (str l))).run P w = .ok (.slice (some ⟨w.heap.size, 0, none⟩) l.length c) w' ∧ Bs (fun k => k = w.heap.size) w' (.slice (some ⟨w.heap.size, 0, none⟩) l.length c) l ∧ Pu w w' ∧ w'.heap.size = w.heap.size + 1 ∧ l.length ≤ c ∧ c ≤ 9223372036854775807 := by
  have h := run_bytes_of_string (P := P) w src dst e (str l) hs hd he
  rw [str_size] at h
  have hge := grownCap_ge w l.length 0 e
  have hle := grownCap_le_maxLen w l.length 0 e (by simp [maxLen]; omega)
  have hle : grownCap w l.length 0 e ≤ 9223372036854775807 := by simpa [maxLen] using hle
  have hge : l.length ≤ grownCap w l.length 0 e := by simpa using hge
  refine ⟨_, _, h, bs_row w.drew _ _ _ l _ hge hle (fun j u hu => ?_), (Fr.refl _ _).drew.alloc _, by simp, hge, hle⟩
  have hlt : j < l.length := by have := (List.getElem?_eq_some_iff.1 hu).1; simpa [u8s] using this
  simp only [bytesRow]
  rw [Array.getElem?_append_left (by simp [str]; exact hlt)]
  simpa [str, u8s, u8v] using hu
theorem PenIn.pu {w0 w w1 : World} {g : Nat} {p : Pen} (h : PenIn w0 w g p) (hp : Pu w w1) : PenIn w0 w1 g p := by
  obtain ⟨h0, h1, v, h2, h3⟩ := h
  exact ⟨h0, h1.pu hp, v, (hp.block g (blk_lt h2) (fun h => h)).trans h2, own_pu h3 hp⟩
theorem PenIn.row_new {w0 w w1 : World} {g b : Nat} {p : Pen} (h : PenIn w0 w g p) (hp : Pu w w1) (hb : w.heap.size ≤ b) : b ≠ g ∧ ¬ Row w1 g b := by
  obtain ⟨h0, _, v, h2, h3⟩ := h
  have hlt := blk_lt h2
  refine ⟨by omega, ?_⟩
  rintro ⟨v', hc, ho⟩
  rw [cell_of_row w1 g 0 _ _ _ ((hp.block g hlt (fun h => h)).trans h2)] at hc
  obtain rfl : v = v' := by simpa using hc
  have := (own_lt h3 b ho).2
  omega
theorem Sl.lt {α : Type} {d : Kd α} {S : Nat → Prop} {w : World} {v : Value} {xs : List α} (h : Sl d S w v xs) : Sl d (fun k => k < w.heap.size) w v xs := h.mono (fun _ hk _ => hk)
def mls : Bytes := [109, 108, 115, 32]
def labelPen (n : Int) (lab ctx : Bytes) : Pen := ((Pen.new.small n 2).text (mls ++ lab) 1).text ctx 2
theorem run_add_str {P : Program} (w : World) (a b : Bytes) (h : a.length + b.length ≤ 17592186044416) : (Op.stringOp .add (str a) (str b)).run P w = .ok (.string (str (a ++ b))) w := by
  rw [run_string_add_sum w _ _ (by simp [str_size]; omega)]
  exact congrArg (fun x => Result.ok (Value.string x) w) (ByteArray.mk_append_mk a b)
set_option maxRecDepth 100000 in
set_option maxHeartbeats 1000000 in
theorem kdfLabel (v vi : Value) (secret ctx lab : Bytes) (n : Nat) (S S' : Nat → Prop) (w : World) (hG : Globs w) (hv : Bs S w v secret) (hi : Bs S' w vi ctx) (hn : n ≤ 8160) (hs : secret.length ≤ 1099511627776) (hil : ctx.length ≤ 274877906944) (hla : lab.length ≤ 274877906944) (hok : (labelPen n lab ctx).bad = false) :
    Calls Tryz.prog 106 #[v, .string (str lab), vi, .int .i64 n] w fun e w' => ∃ v', e = .returned (.tuple #[v', .bool true]) ∧ Bs (fun k => w.heap.size ≤ k) w' v' (expand secret (labelPen n lab ctx).b n) ∧ Pu w w' := by
  obtain ⟨A, c, rfl, hlc, hmc⟩ := hv.shape
  obtain ⟨Ai, ci, rfl, hlci, hmci⟩ := hi.shape
  have Hv := Lib.hid hv
  have Hi := Lib.hid hi
  have HG := Lib.hid hG
  have Hok := Lib.hid hok
  clear hv hi hG hok
  go_enter Tryz.func106, Tryz.ntmps106
  go_wp2_with fail
  refine (penNew w).mono ?_
  rintro e w1 ⟨rfl, hp1, -⟩
  have Hp1 := Lib.hid hp1
  clear hp1
  go_wp2_with fail
  refine (penU16 w w.heap.size Pen.new n w1 Hp1.out (by simp [Pen.new]) (by omega)).mono ?_
  rintro e w2 ⟨rfl, hp2, -⟩
  have Hp2 := Lib.hid hp2
  clear hp2
  have hadd := run_add_str (P := Tryz.prog) w2 mls lab (by simp [mls]; omega)
  obtain ⟨cc, w3, hrun, hb3, hp3, hsz3, hlc3, hmc3⟩ := run_to_bytes (P := Tryz.prog) w2 9 23 5 (mls ++ lab) (by simp [mls]; omega) Tryz.underlying9 Tryz.underlying23 Tryz.underlying5
  have hadd : (Op.stringOp .add ⟨#[109, 108, 115, 32]⟩ (str lab)).run Tryz.prog w2 = .ok (.string (str (mls ++ lab))) w2 := hadd
  have Hb3 := Lib.hid hb3
  have Hp3 := Lib.hid hp3
  have Hsz3 := Lib.hid hsz3
  clear hb3 hp3 hsz3
  obtain ⟨ml, hml⟩ : ∃ ml, ml = mls ++ lab := ⟨_, rfl⟩
  rw [← hml] at hadd hrun
  have Hml := Lib.hid hml
  clear hml
  go_wp2_with fail
  have hp23 : PenIn w w3 w.heap.size (Pen.new.small (n : Int) 2) := Hp2.out.pu Hp3.out
  have hml2 : ml.length ≤ 274877906948 := by rw [Hml.out]; simp [mls]; omega
  have hps := Pen.small_len Pen.new (n : Int) 2
  have hp0 : Pen.new.b.length = 0 := rfl
  refine (penShort w w.heap.size _ _ ml (fun k => k = w2.heap.size) w3 hp23 (by rw [Hml.out]; exact Hb3.out) (fun b hb hlt => Hp2.out.row_new Hp3.out (Nat.le_of_eq hb.symm)) (by omega)).mono ?_
  rintro e w4 ⟨rfl, hp4, hk4⟩
  have Hp4 := Lib.hid hp4
  have hpt := Pen.text_len (Pen.new.small (n : Int) 2) ml 1
  have Hpt := Lib.hid (show ((Pen.new.small (n : Int) 2).text ml 1).b.length ≤ 274877906960 by omega)
  clear hp4 hk4 hadd hrun hpt hps hp0 hp23
  go_wp2_with fail
  refine (penLong w w.heap.size _ _ ctx _ w4 Hp4.out (Hi.out.lt.pu Hp4.out.2.1) (fun b hb hlt => Hp4.out.sep b hb) (by have := Hpt.out; omega)).mono ?_
  rintro e w5 ⟨rfl, hp5, hk5⟩
  have hdef : ((Pen.new.small (n : Int) 2).text ml 1).text ctx 2 = labelPen n lab ctx := by rw [Hml.out]; rfl
  have hpt := Pen.text_len ((Pen.new.small (n : Int) 2).text ml 1) ctx 2
  have Hpt2 := Lib.hid (show (labelPen n lab ctx).b.length ≤ 1099511627776 by rw [← hdef]; have := Hpt.out; omega)
  rw [hdef] at hp5
  have Hp5 := Lib.hid hp5
  clear hp5 hk5 hpt hdef
  go_wp2_with fail
  refine (penBytes w w.heap.size _ w5 Hp5.out (by have := Hpt2.out; omega)).mono ?_
  rintro e w6 ⟨v6, rfl, ho6, hp6⟩
  rw [Hok.out] at ho6 ⊢
  obtain ⟨A6, c6, rfl⟩ := own_shape ho6
  have Ho6 := Lib.hid ho6
  have Hp6 := Lib.hid (Hp5.out.2.1.pu hp6)
  clear ho6 hp6
  go_wp2_with fail
  refine (kdfExpand _ _ secret (labelPen n lab ctx).b n Tr w6 (HG.out.pu Hp6.out) (Hv.out.pu Hp6.out).tr (Bs.own Ho6.out).tr hn hs ?_).mono ?_
  · exact Hpt2.out
  rintro e w7 ⟨v7, rfl, hb7, hp7⟩
  obtain ⟨A7, c7, rfl, _, _⟩ := hb7.shape
  have Hb7 := Lib.hid (hb7.mono (S' := fun k => w.heap.size ≤ k) (fun k _ hk => Nat.le_trans Hp6.out.size hk))
  have Hp7 := Lib.hid (Hp6.out.pu hp7)
  clear hb7 hp7
  go_wp2
  go_ret2
  exact ⟨_, rfl, Hb7.out, Hp7.out⟩
/-- A derived secret. -/
def derive (secret lab : Bytes) : Bytes := expand secret (labelPen 32 (lab.take 251) []).b 32
theorem str_take (l : Bytes) (k : Nat) : (str l).extract 0 k = str (l.take k) := by
  apply ByteArray.ext
  rw [ByteArray.data_extract]
  simp [str]
theorem labelPen_ok (n : Nat) (lab ctx : Bytes) (hn : n ≤ 65535) (hl : lab.length ≤ 251) (hc : ctx.length ≤ 65535) : (labelPen n lab ctx).bad = false := by
  have h1 : (Pen.new.small (n : Int) 2) = ⟨number n 2, false⟩ := by
    unfold Pen.small; rw [if_pos (by omega)]; simp [Pen.num, Pen.raw, Pen.new]
  have h2 : ∃ b, (Pen.mk (number n 2) false).text (mls ++ lab) 1 = ⟨b, false⟩ := by
    unfold Pen.text Pen.small
    rw [if_pos (by simp [mls]; omega)]
    exact ⟨_, rfl⟩
  obtain ⟨b, h2⟩ := h2
  have h3 : ∃ b', (Pen.mk b false).text ctx 2 = ⟨b', false⟩ := by
    unfold Pen.text Pen.small
    rw [if_pos (by omega)]
    exact ⟨_, rfl⟩
  obtain ⟨b', h3⟩ := h3
  rw [labelPen, h1, h2, h3]
set_option maxRecDepth 100000 in
theorem kdfDerive (v : Value) (secret lab : Bytes) (S : Nat → Prop) (w : World) (hG : Globs w) (hv : Bs S w v secret) (hs : secret.length ≤ 1099511627776) (hl : lab.length ≤ 251) :
    Calls Tryz.prog 63 #[v, .string (str lab)] w fun e w' => ∃ v', e = .returned v' ∧ Bs (fun k => w.heap.size ≤ k) w' v' (derive secret lab) ∧ Pu w w' := by
  have ht : lab.take 251 = lab := List.take_of_length_le hl
  have hlab := kdfLabel v (.slice none 0 0) secret [] lab 32 S No w hG hv (Sl.nil _ _ _) (by omega) hs (by simp) (by omega) (labelPen_ok 32 lab [] (by omega) hl (by simp))
  have hx : (str lab).extract 0 lab.length = str lab := by rw [str_take, List.take_length]
  have hsz := str_size lab
  have Hl := Lib.hid hlab
  have Ht := Lib.hid ht
  clear hlab ht hG hv
  go_enter Tryz.func63, Tryz.ntmps63
  go_wp2_with fail
  rw [show (min ((lab.length : Nat) : Int) 251).toNat = lab.length by omega, hx]
  refine Hl.out.mono ?_
  rintro e w1 ⟨v1, rfl, hb, hp⟩
  obtain ⟨A1, c1, rfl, _, _⟩ := hb.shape
  have Hb := Lib.hid hb
  have Hp := Lib.hid hp
  clear hb hp
  go_wp2
  go_ret
  exact ⟨_, rfl, by rw [derive, Ht.out]; exact Hb.out, Hp.out⟩
end Go.Proofs.YtaendhbiehknlaaGreatDoor
