/- What is proved here, of the given program: The writer of octets (wire.Pen): what each call does to it. The writer of octets, on: small numbers, octets, texts, the pen's own octets; a clone of octets. -/
import Derived.Test.YtaendhbiehknlaaGreatDoorProg
import Derived.Test.YtaendhbiehknlaaGreatDoorU01
set_option linter.unusedVariables false
set_option linter.unusedSimpArgs false
set_option linter.constructorNameAsVariable false
namespace Go.Proofs.YtaendhbiehknlaaGreatDoor
open Go.RowKit Go.Proofs
theorem infoU8 : (Tryz.prog.info? 5).map (fun i => (i.zero, i.size, i.bytes)) = some (some (.int .u8 0), 1, 1) := by kernel_rfl

/-! ### numbers as octets, the greatest first -/
def number (n : Nat) : Nat → Bytes
  | 0 => []
  | k + 1 => UInt8.ofNat (n / 2 ^ (8 * k)) :: number n k
theorem number_length (n k : Nat) : (number n k).length = k := by induction k <;> simp_all [number]
/-- A pen: its octets; is it bad? -/
structure Pen where
  b : Bytes
  bad : Bool
def Pen.raw (p : Pen) (l : Bytes) : Pen := if p.bad = true then p else ⟨p.b ++ l, false⟩
def Pen.num (p : Pen) (n k : Nat) : Pen := p.raw (number n k)
def Pen.small (p : Pen) (n : Int) (k : Nat) : Pen := if 0 ≤ n ∧ n < 2 ^ (8 * k) then p.num n.toNat k else ⟨p.b, true⟩
def Pen.text (p : Pen) (l : Bytes) (k : Nat) : Pen := (p.small l.length k).raw l
def Pen.new : Pen := ⟨[], false⟩
theorem Pen.raw_len (p : Pen) (l : Bytes) : (p.raw l).b.length ≤ p.b.length + l.length := by unfold Pen.raw; split <;> simp
theorem Pen.num_len (p : Pen) (n k : Nat) : (p.num n k).b.length ≤ p.b.length + k := by have := p.raw_len (number n k); rw [number_length] at this; exact this
theorem Pen.small_len (p : Pen) (n : Int) (k : Nat) : (p.small n k).b.length ≤ p.b.length + k := by
  unfold Pen.small
  split
  · exact p.num_len _ _
  · simp
theorem Pen.text_len (p : Pen) (l : Bytes) (k : Nat) : (p.text l k).b.length ≤ p.b.length + k + l.length := by
  have := Pen.raw_len (p.small l.length k) l
  have := p.small_len l.length k
  unfold Pen.text
  omega

/-- The pen at block g; its row is v. -/
def PenAt (w : World) (g base : Nat) (v : Value) (p : Pen) : Prop :=
  w.heap[g]? = some (.cells #[v, .bool p.bad] 358 (0, 0)) ∧ w.ownsRow base 5 1 v p.b.length (u8s p.b)
/-- A pen that was made since w0. -/
def PenIn (w0 w : World) (g : Nat) (p : Pen) : Prop := w0.heap.size ≤ g ∧ Pu w0 w ∧ ∃ v, PenAt w g w0.heap.size v p
/-- The pen's row is block k. -/
def Row (w : World) (g k : Nat) : Prop := ∃ v, w.cell? ⟨g, 0, none⟩ = some v ∧ v.ownBlock = some k
/-- What is no pen's and no octets' stays; and what is neither the pen nor its row. -/
structure PenKeep (g : Nat) (w w' : World) : Prop where
  keep : ∀ k cs t fr, w.heap[k]? = some (.cells cs t fr) → t ≠ 5 → k ≠ g → w'.heap[k]? = some (.cells cs t fr)
  size : w.heap.size ≤ w'.heap.size
  fr : ∀ k, k < w.heap.size → k ≠ g → ¬ Row w g k → w'.heap[k]? = w.heap[k]?
  row : ∀ k, k < w.heap.size → Row w' g k → Row w g k
theorem PenKeep.refl (g : Nat) (w : World) : PenKeep g w w := ⟨fun _ _ _ _ h _ _ => h, Nat.le_refl _, fun _ _ _ _ => rfl, fun _ _ h => h⟩
theorem PenKeep.trans {g : Nat} {w w1 w2 : World} (h : PenKeep g w w1) (h2 : PenKeep g w1 w2) : PenKeep g w w2 :=
  ⟨fun k cs t fr hk ht hg => h2.keep k cs t fr (h.keep k cs t fr hk ht hg) ht hg, Nat.le_trans h.size h2.size, fun k hk hg hr => (h2.fr k (Nat.lt_of_lt_of_le hk h.size) hg (fun hh => hr (h.row k hk hh))).trans (h.fr k hk hg hr),
    fun k hk hr => h.row k hk (h2.row k (Nat.lt_of_lt_of_le hk h.size) hr)⟩
theorem PenIn.sep {w0 w : World} {g : Nat} {p : Pen} (h : PenIn w0 w g p) : ∀ b, b < w0.heap.size → b ≠ g ∧ ¬ Row w g b := by
  obtain ⟨h0, _, v, h1, h2⟩ := h
  refine fun b hb => ⟨by omega, ?_⟩
  rintro ⟨v', hc, ho⟩
  rw [cell_of_row w g 0 _ _ _ h1] at hc
  obtain rfl : v = v' := by simpa using hc
  have := (own_lt h2 b ho).1
  omega
theorem PenIn.lt {w0 w : World} {g : Nat} {p : Pen} (h : PenIn w0 w g p) : g < w.heap.size := by
  obtain ⟨_, _, v, h1, _⟩ := h
  exact blk_lt h1
theorem PenAt.cells {w : World} {g base : Nat} {v : Value} {p : Pen} (hp : PenAt w g base v p) : w.cell? ⟨g, 0, none⟩ = some v ∧ w.cell? ⟨g, 1, none⟩ = some (.bool p.bad) ∧ w.frozen? ⟨g, 0, none⟩ = false ∧ w.frozen? ⟨g, 1, none⟩ = false := by
  refine ⟨?_, ?_, ?_, ?_⟩
  · rw [cell_of_row w g 0 _ _ _ hp.1]; rfl
  · rw [cell_of_row w g 1 _ _ _ hp.1]; rfl
  · simp [World.frozen?, hp.1]
  · simp [World.frozen?, hp.1]
/-- Behind an append (before the store): the pen's own cells. -/
theorem PenAt.behind {w w1 : World} {g base : Nat} {v : Value} {p : Pen} (hp : PenAt w g base v p) (hg : w.grownBy w1 v.ownBlock) : w1.heap[g]? = some (.cells #[v, .bool p.bad] 358 (0, 0)) :=
  (hg.block g (blk_lt hp.1) (blk_ne hp.1 hp.2 (by decide))).trans hp.1
theorem PenAt.behind_cells {w w1 : World} {g base : Nat} {v : Value} {p : Pen} (hp : PenAt w g base v p) (hg : w.grownBy w1 v.ownBlock) : w1.cell? ⟨g, 0, none⟩ = some v ∧ w1.frozen? ⟨g, 0, none⟩ = false := by
  have h1 := hp.behind hg
  exact ⟨by rw [cell_of_row w1 g 0 _ _ _ h1]; rfl, by simp [World.frozen?, h1]⟩
/-- .. and behind the store. -/
theorem PenIn.put {w0 w w1 : World} {g : Nat} {v v1 : Value} {p : Pen} {l : Bytes} (h0 : w0.heap.size ≤ g) (hu : Pu w0 w) (hp : PenAt w g w0.heap.size v p) (hg : w.grownBy w1 v.ownBlock)
    (ho : w1.ownsRow w0.heap.size 5 1 v1 l.length (u8s l)) (hv : ∀ k, k < w.heap.size → v1.ownBlock = some k → v.ownBlock = some k) : PenIn w0 (w1.setCell ⟨g, 0, none⟩ v1) g ⟨l, p.bad⟩ ∧ PenKeep g w (w1.setCell ⟨g, 0, none⟩ v1) := by
  have h1 := hp.behind hg
  refine ⟨⟨h0, ?_, v1, by simp [World.setCell, Array.getElem?_modify, h1], own_set ho (blk_ne h1 ho (by decide)) _⟩, ?_⟩
  · exact (hu.grown hg (fun k hk e => by have := (own_lt hp.2 k e).1; omega)).set _ _ (fun hlt => by have : g < w0.heap.size := hlt; omega)
  · have hc0 : w.cell? ⟨g, 0, none⟩ = some v := hp.cells.1
    refine ⟨fun k cs t fr hk ht hkg => ?_, by simpa [World.setCell] using hg.size, fun k hk hkg hr => ?_, ?_⟩
    · rw [Below.heap_setCell _ _ _ _ hkg]
      refine (hg.block k (blk_lt hk) (fun e => ?_)).trans hk
      rcases hp.2.2 with ⟨rfl, _⟩ | ⟨g', cap, cur, rfl, _, hh, _⟩
      · simp [Value.ownBlock] at e
      · have : k = g' := by simpa [Value.ownBlock] using e
        subst this
        rw [hk] at hh; injection hh with hh; injection hh with _ ht' _; exact ht ht'
    · rw [Below.heap_setCell _ _ _ _ hkg]
      exact hg.block k hk (fun e => hr ⟨v, hc0, e.symm⟩)
    · rintro k hk ⟨v', hc, ho'⟩
      have h9 : (w1.setCell ⟨g, 0, none⟩ v1).heap[g]? = some (.cells #[v1, .bool p.bad] 358 (0, 0)) := by simp [World.setCell, Array.getElem?_modify, h1]
      rw [cell_of_row _ g 0 _ _ _ h9] at hc
      obtain rfl : v1 = v' := by simpa using hc
      exact ⟨v, hc0, hv k hk ho'⟩

set_option maxRecDepth 100000 in
set_option maxHeartbeats 400000 in
theorem penNumber (w0 : World) (g : Nat) (p : Pen) (n k : Nat) (w : World) (hp : PenIn w0 w g p) (hl : p.b.length ≤ 17592186044416) (hk : k ≤ 8) :
    Calls Tryz.prog 205 #[.pointer (some ⟨g, 0, none⟩), .int .u64 n, .int .i64 k] w fun e w' => e = .returned (.tuple #[]) ∧ PenIn w0 w' g (p.num n k) ∧ PenKeep g w w' := by
  obtain ⟨i0, hi, hz0, hz1, hz2⟩ := info_parts infoU8
  go_enter Tryz.func205, Tryz.ntmps205
  go_wp2
  go_loopw [6] (fun i wr => ∃ (j : Nat) (l : Bytes), j ≤ k ∧ i = .int .i64 ((j : Int) - 1) ∧ PenIn w0 wr g ⟨l, p.bad⟩ ∧ (Pen.raw ⟨l, p.bad⟩ (number n j) = p.num n k ∧ l.length + j ≤ p.b.length + k) ∧ PenKeep g w wr) (fun i _ => (intOf i + 1).toNat)
  case atStart => exact ⟨k, p.b, Nat.le_refl _, rfl, hp, ⟨rfl, Nat.le_refl _⟩, PenKeep.refl _ _⟩
  case round =>
    obtain ⟨j, l, hjk, rfl, hin, hn, hkeep⟩ := hrel
    obtain ⟨h0, hu, v, hat⟩ := hin
    obtain ⟨c0, c1, f0, -⟩ := hat.cells
    have Hn := Lib.hid hn
    have Hu := Lib.hid hu
    have Ha := Lib.hid hat
    have Hk := Lib.hid hkeep
    clear hn hu hat hkeep hp
    by_cases hj : 1 ≤ j
    · cases hb : p.bad
      · rw [hb] at c1
        have Hb := Lib.hid hb
        clear hb
        have hgl : g < wr.heap.size := blk_lt Ha.out.1
        go_wp2
        have hw : IntKind.i64.wrap (8 * ((j : Int) - 1)) = 8 * ((j : Int) - 1) := IntWalk.i64_in _ (by omega)
        have hb0 : 0 ≤ 8 * ((j : Int) - 1) := by omega
        have hb1 : 8 * ((j : Int) - 1) ≤ 64 := by omega
        have Hlen : Hid (l.length + 1 ≤ maxLen ∧ (l.length + 1) * 1 ≤ 140737488355328 ∧ w0.heap.size ≤ wr.heap.size + 1) := by
          have h2 := Hu.out.size
          have h3 := Hn.out.2
          exact ⟨by unfold maxLen; omega, by omega, by omega⟩
        go_region_law ((refine step_append_lies _ rfl (.tmp 24) (.tmp 30) 23 rfl w0.heap.size 5 i0 (.int .u8 0) 1 1 Tryz.underlying23 hi hz0 hz1 hz2 rfl (by decide) v l.length (u8s l) (by simp [Act.eval]) (by exact (Ha.out.2.alloc _).drew) ⟨wr.heap.size, 0, none⟩ 1 1 [.int .u8 (IntKind.u8.wrap (n / 2 ^ (8 * ((j : Int) - 1)).toNat))] (by simp [Act.eval]) rfl (by exact World.news_of_block (heap_alloc_new wr _)) (by simp [Value.oneCell']) (by decide) (by exact Hlen.out.1) (by exact Hlen.out.2.1) (by simpa using Hlen.out.2.2) _ rfl ?_); intro g1 cap w1 hown hgrow hat hlt; obtain ⟨x0, x1⟩ := Ha.out.behind_cells ((World.grownBy_alloc wr _ _).trans (gdrew hgrow)))
        go_wp2
        all_goals
          obtain ⟨m, rfl⟩ : ∃ m, j = m + 1 := ⟨j - 1, by omega⟩
          have hex : Int.toNat (8 * (((m + 1 : Nat) : Int) - 1)) = 8 * m := by omega
          have hcast : ((n : Int) / 2 ^ (8 * m)) = ((n / 2 ^ (8 * m) : Nat) : Int) := by simp
          rw [hex, hcast, u8v_wrap] at hown
          have hput := PenIn.put (l := l ++ [UInt8.ofNat (n / 2 ^ (8 * m))]) h0 Hu.out Ha.out ((World.grownBy_alloc wr _ _).trans (gdrew hgrow)) (by simpa [u8s] using hown) (fun k hk e => by
            have e : g1 = k := by simpa [Value.ownBlock] using e
            subst e
            rcases hat with h | h
            · exact h
            · have : (wr.alloc (Obj.cells #[Value.int .u8 (IntKind.u8.wrap ((n : Int) / 2 ^ (8 * (((m + 1 : Nat) : Int) - 1)).toNat))] 5)).drew.heap.size = wr.heap.size + 1 := by simp [World.drew]
              omega)
          rw [show (Pen.mk l p.bad).bad = false from Hb.out] at hput
          refine ⟨⟨m, l ++ [UInt8.ofNat (n / 2 ^ (8 * m))], by omega, by congr 1; omega, hput.1, ⟨?_, ?_⟩, Hk.out.trans hput.2⟩, by simp [intOf]⟩
          · rw [← Hn.out.1]; simp [number, Pen.raw, Hb.out]
          · have := Hn.out.2; simp; omega
      · rw [hb] at c1
        have Hb := Lib.hid hb
        clear hb
        go_wp2
        refine bodyPost_end (results_none rfl _ _ _) rfl ⟨rfl, ?_, Hk.out⟩
        have h1 := Hn.out.1
        simp only [Pen.raw, Hb.out, if_true] at h1
        rw [← h1]
        exact ⟨h0, Hu.out, v, by rw [← Hb.out]; exact Ha.out⟩
    · go_wp2
      obtain rfl : j = 0 := by omega
      refine bodyPost_end (results_none rfl _ _ _) rfl ⟨rfl, ?_, Hk.out⟩
      have h1 := Hn.out.1
      have h2 : Pen.raw ⟨l, p.bad⟩ (number n 0) = ⟨l, p.bad⟩ := by unfold Pen.raw; split <;> simp_all [number]
      rw [h2] at h1
      rw [← h1]
      exact ⟨h0, Hu.out, v, Ha.out⟩
end Go.Proofs.YtaendhbiehknlaaGreatDoor

namespace Go.Proofs.YtaendhbiehknlaaGreatDoor
open Go.RowKit Go.Proofs

theorem penRaw (w0 : World) (g : Nat) (p : Pen) (v2 : Value) (l : Bytes) (S : Nat → Prop) (w : World) (hp : PenIn w0 w g p) (hv : Bs S w v2 l) (hl : p.b.length + l.length ≤ 17592186044416) :
    Calls Tryz.prog 126 #[.pointer (some ⟨g, 0, none⟩), v2] w fun e w' => e = .returned (.tuple #[]) ∧ PenIn w0 w' g (p.raw l) ∧ PenKeep g w w' := by
  obtain ⟨h0, hu, v, hat⟩ := hp
  obtain ⟨c0, c1, f0, -⟩ := hat.cells
  obtain ⟨A2, n2, rfl, -, -, -⟩ := id hv
  have Hr := Lib.hid hv.rds
  have Hu := Lib.hid hu
  have Ha := Lib.hid hat
  clear hv hu hat
  cases hb : p.bad
  · rw [hb] at c1
    have Hb := Lib.hid hb
    clear hb
    go_enter Tryz.func126, Tryz.ntmps126
    go_wp2_with (at_builtin; refine wpList_append_any _ rfl (.tmp 13) (.tmp 14) 23 rfl w0.heap.size 5 (.int .u8 0) 1 1 Tryz.underlying23 infoU8 rfl (by decide) v p.b.length (u8s p.b) rfl Ha.out.2 A2 l.length n2 (u8s l) rfl Hr.out (u8s_one l) (by omega) (by exact Hu.out.size) ?_; intro v1 w1 hown hgrow hat; obtain ⟨x0, x1⟩ := Ha.out.behind_cells hgrow; obtain ⟨A1, n1, hv1⟩ := own_shape hown; rw [hv1])
    have hput := PenIn.put (l := p.b ++ l) h0 Hu.out Ha.out hgrow (by simpa [u8s] using hown) (fun k hk e => by
      rcases hat with h | h
      · rw [← h]; exact e
      · rw [h] at e; injection e with e; omega)
    rw [Hb.out, hv1] at hput
    refine bodyPost_end (results_none rfl _ _ _) rfl ⟨rfl, ?_, hput.2⟩
    have h1 : p.raw l = ⟨p.b ++ l, false⟩ := by simp [Pen.raw, Hb.out]
    rw [h1]
    exact hput.1
  · rw [hb] at c1
    have Hb := Lib.hid hb
    clear hb
    go_enter Tryz.func126, Tryz.ntmps126
    go_wp2
    refine bodyPost_end (results_none rfl _ _ _) rfl ⟨rfl, ?_, PenKeep.refl _ _⟩
    simp only [Pen.raw, Hb.out, if_true]
    exact ⟨h0, Hu.out, v, Ha.out⟩

theorem PenIn.spoilt {w0 w : World} {g : Nat} {v : Value} {p : Pen} (h0 : w0.heap.size ≤ g) (hu : Pu w0 w) (hp : PenAt w g w0.heap.size v p) : PenIn w0 (w.setCell ⟨g, 1, none⟩ (.bool true)) g ⟨p.b, true⟩ ∧ PenKeep g w (w.setCell ⟨g, 1, none⟩ (.bool true)) := by
  refine ⟨⟨h0, hu.set _ _ (fun hlt => by have : g < w0.heap.size := hlt; omega), v, by simp [World.setCell, Array.getElem?_modify, hp.1], own_set hp.2 (blk_ne hp.1 hp.2 (by decide)) _⟩, ?_⟩
  refine ⟨fun k cs t fr hk ht hkg => ?_, by simp [World.setCell], fun k hk hkg hr => Below.heap_setCell _ _ _ _ hkg, ?_⟩
  · rw [Below.heap_setCell _ _ _ _ hkg]
    exact hk
  · rintro k hk ⟨v', hc, ho'⟩
    have h9 : (w.setCell ⟨g, 1, none⟩ (.bool true)).heap[g]? = some (.cells #[v, .bool true] 358 (0, 0)) := by simp [World.setCell, Array.getElem?_modify, hp.1]
    rw [cell_of_row _ g 0 _ _ _ h9] at hc
    exact ⟨v', by rw [cell_of_row _ g 0 _ _ _ hp.1]; exact hc, ho'⟩
theorem penSmall (w0 : World) (g : Nat) (p : Pen) (n : Int) (k : Nat) (w : World) (hp : PenIn w0 w g p) (hl : p.b.length ≤ 17592186044416) (hk : 1 ≤ k ∧ k ≤ 4) (hn : -9223372036854775808 ≤ n ∧ n ≤ 9223372036854775807) :
    Calls Tryz.prog 206 #[.pointer (some ⟨g, 0, none⟩), .int .i64 n, .int .i64 k] w fun e w' => e = .returned (.tuple #[]) ∧ PenIn w0 w' g (p.small n k) ∧ PenKeep g w w' := by
  obtain ⟨h0, hu, v, hat⟩ := id hp
  obtain ⟨c0, c1, -, f1⟩ := hat.cells
  have Hp := Lib.hid hp
  have Hu := Lib.hid hu
  have Ha := Lib.hid hat
  clear hp hu hat
  by_cases h : n < 0
  · go_enter Tryz.func206, Tryz.ntmps206
    go_wp2
    have h1 : p.small n k = ⟨p.b, true⟩ := by unfold Pen.small; rw [if_neg (by omega)]
    exact bodyPost_ret (results_none rfl _ _ _) rfl ⟨rfl, by rw [h1]; exact PenIn.spoilt h0 Hu.out Ha.out⟩
  · have h' : 0 ≤ n := by omega
    obtain ⟨m, rfl⟩ := Int.eq_ofNat_of_zero_le h'
    have hk8 : (0 : Int) ≤ 8 * (k : Int) ∧ 8 * (k : Int) ≤ 32 := by omega
    go_enter Tryz.func206, Tryz.ntmps206
    go_wp2_with fail
    · rename_i ht
      have h2 : ¬ ((m : Int) < 2 ^ (8 * k)) := by
        intro h2
        rw [Int.ediv_eq_zero_of_lt (by omega) h2] at ht
        simp at ht
      have h1 : p.small m k = ⟨p.b, true⟩ := by unfold Pen.small; rw [if_neg (fun hh => h2 hh.2)]
      exact bodyPost_ret (results_none rfl _ _ _) rfl ⟨rfl, by rw [h1]; exact PenIn.spoilt h0 Hu.out Ha.out⟩
    · have ht : ((m : Int) / 2 ^ (8 * k) != 0) = false := by assumption
      have h2 : (m : Int) < 2 ^ (8 * k) := by
        rcases Int.lt_or_le (m : Int) (2 ^ (8 * k)) with h2 | h2
        · exact h2
        · exfalso
          have hp : (0 : Int) < 2 ^ (8 * k) := Int.pow_pos (by decide)
          have h3 : 1 ≤ (m : Int) / 2 ^ (8 * k) := (Int.le_ediv_iff_mul_le hp).2 (by simpa using h2)
          simp only [bne_eq_false_iff_eq] at ht
          omega
      have h1 : p.small m k = p.num m k := by unfold Pen.small; rw [if_pos ⟨h', h2⟩]; rfl
      have H1 := Lib.hid h1
      clear h1 ht h2
      refine (penNumber w0 g p m k w Hp.out hl (by omega)).mono ?_
      rintro e w1 ⟨rfl, hq1, hq2⟩
      go_wp2
      exact bodyPost_end (results_none rfl _ _ _) rfl ⟨rfl, by rw [H1.out]; exact ⟨hq1, hq2⟩⟩
theorem penU8 (w0 : World) (g : Nat) (p : Pen) (n : Int) (w : World) (hp : PenIn w0 w g p) (hl : p.b.length ≤ 17592186044416) (hn : -9223372036854775808 ≤ n ∧ n ≤ 9223372036854775807) :
    Calls Tryz.prog 223 #[.pointer (some ⟨g, 0, none⟩), .int .i64 n] w fun e w' => e = .returned (.tuple #[]) ∧ PenIn w0 w' g (p.small n 1) ∧ PenKeep g w w' := by
  go_enter Tryz.func223, Tryz.ntmps223
  go_wp2_with fail
  refine (penSmall w0 g p n 1 w hp hl (by omega) hn).mono ?_
  rintro e w1 ⟨rfl, hq1, hq2⟩
  go_wp2
  exact bodyPost_end (results_none rfl _ _ _) rfl ⟨rfl, hq1, hq2⟩
theorem penU16 (w0 : World) (g : Nat) (p : Pen) (n : Int) (w : World) (hp : PenIn w0 w g p) (hl : p.b.length ≤ 17592186044416) (hn : -9223372036854775808 ≤ n ∧ n ≤ 9223372036854775807) :
    Calls Tryz.prog 162 #[.pointer (some ⟨g, 0, none⟩), .int .i64 n] w fun e w' => e = .returned (.tuple #[]) ∧ PenIn w0 w' g (p.small n 2) ∧ PenKeep g w w' := by
  go_enter Tryz.func162, Tryz.ntmps162
  go_wp2_with fail
  refine (penSmall w0 g p n 2 w hp hl (by omega) hn).mono ?_
  rintro e w1 ⟨rfl, hq1, hq2⟩
  go_wp2
  exact bodyPost_end (results_none rfl _ _ _) rfl ⟨rfl, hq1, hq2⟩
theorem penU32 (w0 : World) (g : Nat) (p : Pen) (n : Int) (w : World) (hp : PenIn w0 w g p) (hl : p.b.length ≤ 17592186044416) (hn : -9223372036854775808 ≤ n ∧ n ≤ 9223372036854775807) :
    Calls Tryz.prog 128 #[.pointer (some ⟨g, 0, none⟩), .int .i64 n] w fun e w' => e = .returned (.tuple #[]) ∧ PenIn w0 w' g (p.small n 4) ∧ PenKeep g w w' := by
  go_enter Tryz.func128, Tryz.ntmps128
  go_wp2_with fail
  refine (penSmall w0 g p n 4 w hp hl (by omega) hn).mono ?_
  rintro e w1 ⟨rfl, hq1, hq2⟩
  go_wp2
  exact bodyPost_end (results_none rfl _ _ _) rfl ⟨rfl, hq1, hq2⟩
theorem penU64 (w0 : World) (g : Nat) (p : Pen) (n : Nat) (w : World) (hp : PenIn w0 w g p) (hl : p.b.length ≤ 17592186044416) :
    Calls Tryz.prog 127 #[.pointer (some ⟨g, 0, none⟩), .int .u64 n] w fun e w' => e = .returned (.tuple #[]) ∧ PenIn w0 w' g (p.num n 8) ∧ PenKeep g w w' := by
  go_enter Tryz.func127, Tryz.ntmps127
  go_wp2_with fail
  refine (penNumber w0 g p n 8 w hp hl (by omega)).mono ?_
  rintro e w1 ⟨rfl, hq1, hq2⟩
  go_wp2
  exact bodyPost_end (results_none rfl _ _ _) rfl ⟨rfl, hq1, hq2⟩
theorem penText (w0 : World) (g : Nat) (p : Pen) (v2 : Value) (l : Bytes) (S : Nat → Prop) (k : Nat) (w : World) (hp : PenIn w0 w g p) (hv : Bs S w v2 l) (hs : ∀ b, S b → b < w.heap.size → b ≠ g ∧ ¬ Row w g b) (hl : p.b.length + l.length ≤ 8796093022208) (hk : 1 ≤ k ∧ k ≤ 4) :
    Calls Tryz.prog 229 #[.pointer (some ⟨g, 0, none⟩), v2, .int .i64 k] w fun e w' => e = .returned (.tuple #[]) ∧ PenIn w0 w' g (p.text l k) ∧ PenKeep g w w' := by
  obtain ⟨A2, n2, rfl, -, -, -⟩ := id hv
  have Hv := Lib.hid hv
  clear hv
  go_enter Tryz.func229, Tryz.ntmps229
  go_wp2_with fail
  refine (penSmall w0 g p l.length k w hp (by omega) hk (by omega)).mono ?_
  rintro e w1 ⟨rfl, hq1, hq2⟩
  go_wp2_with fail
  refine (penRaw w0 g _ _ l S w1 hq1 (Hv.out.move (fun k hk hlt => hq2.fr k hlt (hs k hk hlt).1 (hs k hk hlt).2)) (by have := p.small_len l.length k; omega)).mono ?_
  rintro e w2 ⟨rfl, hq3, hq4⟩
  go_wp2
  exact bodyPost_end (results_none rfl _ _ _) rfl ⟨rfl, hq3, hq2.trans hq4⟩
theorem penShort (w0 : World) (g : Nat) (p : Pen) (v2 : Value) (l : Bytes) (S : Nat → Prop) (w : World) (hp : PenIn w0 w g p) (hv : Bs S w v2 l) (hs : ∀ b, S b → b < w.heap.size → b ≠ g ∧ ¬ Row w g b) (hl : p.b.length + l.length ≤ 8796093022208) :
    Calls Tryz.prog 163 #[.pointer (some ⟨g, 0, none⟩), v2] w fun e w' => e = .returned (.tuple #[]) ∧ PenIn w0 w' g (p.text l 1) ∧ PenKeep g w w' := by
  go_enter Tryz.func163, Tryz.ntmps163
  go_wp2_with fail
  refine (penText w0 g p v2 l S 1 w hp hv hs hl (by omega)).mono ?_
  rintro e w1 ⟨rfl, hq1, hq2⟩
  go_wp2
  exact bodyPost_end (results_none rfl _ _ _) rfl ⟨rfl, hq1, hq2⟩
theorem penLong (w0 : World) (g : Nat) (p : Pen) (v2 : Value) (l : Bytes) (S : Nat → Prop) (w : World) (hp : PenIn w0 w g p) (hv : Bs S w v2 l) (hs : ∀ b, S b → b < w.heap.size → b ≠ g ∧ ¬ Row w g b) (hl : p.b.length + l.length ≤ 8796093022208) :
    Calls Tryz.prog 164 #[.pointer (some ⟨g, 0, none⟩), v2] w fun e w' => e = .returned (.tuple #[]) ∧ PenIn w0 w' g (p.text l 2) ∧ PenKeep g w w' := by
  go_enter Tryz.func164, Tryz.ntmps164
  go_wp2_with fail
  refine (penText w0 g p v2 l S 2 w hp hv hs hl (by omega)).mono ?_
  rintro e w1 ⟨rfl, hq1, hq2⟩
  go_wp2
  exact bodyPost_end (results_none rfl _ _ _) rfl ⟨rfl, hq1, hq2⟩
theorem penNew (w : World) : Calls Tryz.prog 125 #[] w fun e w' => e = .returned (.pointer (some ⟨w.heap.size, 0, none⟩)) ∧ PenIn w w' w.heap.size Pen.new ∧ w' = w.alloc (.cells #[.slice none 0 0, .bool false] 358) := by
  go_enter Tryz.func125, Tryz.ntmps125
  go_wp2
  go_ret
  exact ⟨rfl, ⟨Nat.le_refl _, (Fr.refl _ _).alloc _, .slice none 0 0, heap_alloc_new w _, World.ownsRow_nil _ _ _ _⟩, rfl⟩
set_option maxRecDepth 100000 in
/-- A clone of octets. -/
theorem cloneBytes (v : Value) (l : Bytes) (S : Nat → Prop) (w : World) (hv : Bs S w v l) (hl : l.length ≤ 17592186044416) :
    Calls Tryz.prog 33 #[v] w fun e w' => ∃ v', e = .returned v' ∧ w'.ownsRow w.heap.size 5 1 v' l.length (u8s l) ∧ Pu w w' := by
  obtain ⟨A2, n2, rfl, -, -, -⟩ := id hv
  have Hv := Lib.hid hv
  clear hv
  cases A2 with
  | none =>
    have he := fun (wx : World) => Lib.run_eql_slice_nil (P := Tryz.prog) wx 23 5 none l.length n2 0 0 Tryz.underlying23
    go_enter Tryz.func33, Tryz.ntmps33
    go_wp2
    go_ret
    have hl : l = [] := by
      obtain ⟨A, c, e, _, _, h3⟩ := Hv.out
      injection e with e1
      subst e1
      rcases l with _ | ⟨x, r⟩
      · rfl
      · obtain ⟨b, o, h, _⟩ := h3 (by simp)
        cases h
    subst hl
    exact ⟨_, rfl, World.ownsRow_nil _ _ _ _, Fr.refl _ _⟩
  | some ad =>
    have he := fun (wx : World) => Lib.run_eql_slice_nil (P := Tryz.prog) wx 23 5 (some ad) l.length n2 0 0 Tryz.underlying23
    have Hown : Hid ((w.alloc (.cells #[] 5)).ownsRow w.heap.size 5 1 (.slice (some ⟨w.heap.size, 0, none⟩) 0 0) 0 []) := World.ownsRow_made w #[] 0 (Nat.le_refl _) (by simp [maxLen]) (by simp)
    have Hr : Hid (Rds (w.alloc (.cells #[] 5)) 1 (some ad) l.length (u8s l)) := Bs.rds (Hv.out.pu ((Fr.refl _ _).alloc _))
    go_enter Tryz.func33, Tryz.ntmps33
    go_wp2_with (at_builtin; refine wpList_append_any _ rfl (.tmp 5) (.tmp 6) 23 rfl w.heap.size 5 (.int .u8 0) 1 1 Tryz.underlying23 infoU8 rfl (by decide) (.slice (some ⟨w.heap.size, 0, none⟩) 0 0) 0 [] rfl Hown.out (some ad) l.length n2 (u8s l) rfl Hr.out (u8s_one l) (by omega) (by simp) ?_; intro v1 w1 hown hgrow hat)
    go_ret
    exact ⟨_, rfl, by simpa using hown, ((Fr.refl _ _).alloc _).grown hgrow (fun k hk e => by simp [Value.ownBlock] at e; omega)⟩
theorem penBytes (w0 : World) (g : Nat) (p : Pen) (w : World) (hp : PenIn w0 w g p) (hl : p.b.length ≤ 17592186044416) :
    Calls Tryz.prog 129 #[.pointer (some ⟨g, 0, none⟩)] w fun e w' => ∃ v', e = .returned (.tuple #[v', .bool (!p.bad)]) ∧ w'.ownsRow w.heap.size 5 1 v' (if p.bad then [] else p.b).length (u8s (if p.bad then [] else p.b)) ∧ Pu w w' := by
  obtain ⟨h0, hu, v, hat⟩ := id hp
  obtain ⟨c0, c1, -, -⟩ := hat.cells
  have Hs := Lib.hid (Bs.of_own hat.2)
  clear hat hp hu
  cases hb : p.bad
  · rw [hb] at c1
    have Hb := Lib.hid hb
    clear hb
    go_enter Tryz.func129, Tryz.ntmps129
    go_wp2_with fail
    refine (cloneBytes v p.b _ w Hs.out hl).mono ?_
    rintro e w1 ⟨v', rfl, hq1, hq2⟩
    go_wp2
    go_ret2
    exact ⟨v', rfl, hq1, hq2⟩
  · rw [hb] at c1
    have Hb := Lib.hid hb
    clear hb
    go_enter Tryz.func129, Tryz.ntmps129
    go_wp2
    go_ret2
    exact ⟨_, rfl, World.ownsRow_nil _ _ _ _, Fr.refl _ _⟩
end Go.Proofs.YtaendhbiehknlaaGreatDoor
