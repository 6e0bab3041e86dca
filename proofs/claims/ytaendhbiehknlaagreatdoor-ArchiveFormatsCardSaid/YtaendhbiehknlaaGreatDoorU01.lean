/- What is proved here, of the given program: The ground of the walks: frames of worlds, kinds of values in cells, slices that read as lists. No program in sight. -/
import Derived.WalkKit
import Derived.KernelRfl
import Derived.WalkLawsBesides
import Derived.WalkSpells
import Derived.Lib.Hide
import Derived.Deep.AppendLies
import Derived.Deep.RegionLaw
import Derived.Deep.LoopGhost
import Derived.BigRegion
import Derived.BigQuiet
import Derived.Deep.QuietTactic
import Derived.Maps.AppendAt
import Derived.RegionTactic
import Derived.OwnWalk
set_option linter.unusedVariables false
set_option linter.unusedSimpArgs false
set_option linter.constructorNameAsVariable false
namespace Go.Proofs.YtaendhbiehknlaaGreatDoor
open Go.RowKit Go.Proofs

theorem gdrew {w w1 : World} {r : Option Nat} (h : w.drew.grownBy w1 r) : w.grownBy w1 r := ⟨h.os, h.tape, h.output, h.size, h.block⟩

/-- Of the blocks that there were only those of S have turned. -/
structure Fr (S : Nat → Prop) (w w' : World) : Prop where
  os : w'.os = w.os
  tape : w'.tape = w.tape
  output : w'.output = w.output
  size : w.heap.size ≤ w'.heap.size
  block : ∀ k, k < w.heap.size → ¬ S k → w'.heap[k]? = w.heap[k]?
def No (_ : Nat) : Prop := False
/-- Nothing that there was has turned. -/
abbrev Pu (w w' : World) : Prop := Fr No w w'
namespace Fr
variable {S S' : Nat → Prop} {w w1 w2 : World}
theorem refl (S : Nat → Prop) (w : World) : Fr S w w := ⟨rfl, rfl, rfl, Nat.le_refl _, fun _ _ _ => rfl⟩
theorem trans (h : Fr S w w1) (h2 : Fr S' w1 w2) (hs : ∀ k, k < w.heap.size → S' k → S k) : Fr S w w2 :=
  ⟨h2.os.trans h.os, h2.tape.trans h.tape, h2.output.trans h.output, Nat.le_trans h.size h2.size, fun k hk hn => (h2.block k (Nat.lt_of_lt_of_le hk h.size) (fun hh => hn (hs k hk hh))).trans (h.block k hk hn)⟩
theorem pu (h : Fr S w w1) (h2 : Pu w1 w2) : Fr S w w2 := h.trans h2 (fun _ _ h => h.elim)
theorem mono (h : Fr S w w1) (hs : ∀ k, k < w.heap.size → S k → S' k) : Fr S' w w1 := ⟨h.os, h.tape, h.output, h.size, fun k hk hn => h.block k hk (fun hh => hn (hs k hk hh))⟩
theorem any (h : Pu w w1) : Fr S w w1 := h.mono (fun _ _ h => h.elim)
theorem drew (h : Fr S w w1) : Fr S w w1.drew := ⟨h.os, h.tape, h.output, h.size, h.block⟩
theorem drewN (h : Fr S w w1) (n : Nat) : Fr S w (w1.drewN n) := ⟨h.os, h.tape, h.output, h.size, h.block⟩
theorem alloc (h : Fr S w w1) (o : Obj) : Fr S w (w1.alloc o) :=
  ⟨h.os, h.tape, h.output, by simpa using Nat.le_succ_of_le h.size, fun k hk hn => (heap_alloc_old w1 o (Nat.lt_of_lt_of_le hk h.size)).trans (h.block k hk hn)⟩
theorem grown (h : Fr S w w1) {row : Option Nat} (hg : w1.grownBy w2 row) (hr : ∀ k, k < w.heap.size → row = some k → S k) : Fr S w w2 :=
  ⟨hg.os.trans h.os, hg.tape.trans h.tape, hg.output.trans h.output, Nat.le_trans h.size hg.size, fun k hk hn => (hg.block k (Nat.lt_of_lt_of_le hk h.size) (fun e => hn (hr k hk e.symm))).trans (h.block k hk hn)⟩
theorem set (h : Fr S w w1) (p : Addr) (u : Value) (hp : p.block < w.heap.size → S p.block) : Fr S w (w1.setCell p u) :=
  ⟨h.os, h.tape, h.output, by simpa [World.setCell] using h.size, fun k hk hn => (Below.heap_setCell w1 p u k (fun e => hn (e ▸ hp (e ▸ hk)))).trans (h.block k hk hn)⟩
theorem below (h : Pu w w1) : Below w.heap.size w w1 := ⟨h.os, h.tape, h.output, h.size, fun k hk => h.block k hk (fun h => h)⟩
theorem of_below (h : Below w.heap.size w w1) : Pu w w1 := ⟨h.os, h.tape, h.output, h.size, fun k hk _ => h.block k hk⟩
theorem of_grown {row : Option Nat} (hg : w.grownBy w1 row) : Fr (fun k => row = some k) w w1 := ⟨hg.os, hg.tape, hg.output, hg.size, fun k hk hn => hg.block k hk (fun e => hn e.symm)⟩
/-- For the walk: what lies outside S reads as it did. -/
theorem cell (h : Fr S w w1) : ∀ b o, b < w.heap.size → ¬ S b → w1.cell? ⟨b, o, none⟩ = w.cell? ⟨b, o, none⟩ := fun b o hb hn => by simp only [World.cell?, h.block b hb hn]
theorem frozen (h : Fr S w w1) : ∀ b o, b < w.heap.size → ¬ S b → w1.frozen? ⟨b, o, none⟩ = w.frozen? ⟨b, o, none⟩ := fun b o hb hn => by simp only [World.frozen?, h.block b hb hn]
theorem pcell (h : Pu w w1) : ∀ b o, b < w.heap.size → w1.cell? ⟨b, o, none⟩ = w.cell? ⟨b, o, none⟩ := fun b o hb => h.cell b o hb (fun h => h)
theorem pfrozen (h : Pu w w1) : ∀ b o, b < w.heap.size → w1.frozen? ⟨b, o, none⟩ = w.frozen? ⟨b, o, none⟩ := fun b o hb => h.frozen b o hb (fun h => h)
end Fr

theorem qs {P : Program} {f : FuncId} {args : Array Value} {w : World} {v : Value} (h : Calls P f args w fun e w' => e = .returned v ∧ w = w') : Calls P f args w fun e w' => e = .returned v ∧ w' = w := h.mono fun _ _ h => ⟨h.1, h.2.symm⟩

/-! ### Kinds: how one value lies in cells; S: the blocks that it leads to -/
structure Kd (α : Type) where
  sz : Nat
  K : (Nat → Prop) → World → α → List Value → Prop
  len : ∀ {S w x cs}, K S w x cs → cs.length = sz
  one : ∀ {S w x cs}, K S w x cs → ∀ u ∈ cs, u.oneCell' = true
  mono : ∀ {S S' : Nat → Prop} {w : World} {x cs}, (∀ k, k < w.heap.size → S k → S' k) → K S w x cs → K S' w x cs
  move : ∀ {S : Nat → Prop} {w w' : World} {x cs}, (∀ k, S k → k < w.heap.size → w'.heap[k]? = w.heap[k]?) → K S w x cs → K S w' x cs

/-- v is a slice that reads as xs. -/
def Sl {α : Type} (d : Kd α) (S : Nat → Prop) (w : World) (v : Value) (xs : List α) : Prop :=
  ∃ A c, v = .slice A xs.length c ∧ xs.length ≤ c ∧ c ≤ maxLen ∧ (xs ≠ [] → ∃ b o, A = some ⟨b, o, none⟩ ∧ S b ∧ b < w.heap.size ∧
    ∀ j x, xs[j]? = some x → ∃ cs, d.K S w x cs ∧ ∀ i u, cs[i]? = some u → w.cell? ⟨b, o + j * d.sz + i, none⟩ = some u)
theorem block_same {w w' : World} {k : Nat} (h : w'.heap[k]? = w.heap[k]?) (hk : k < w.heap.size) : k < w'.heap.size := by
  rw [Array.getElem?_eq_getElem hk] at h
  exact (Array.getElem?_eq_some_iff.1 h).1
namespace Sl
variable {α : Type} {d : Kd α} {S S' : Nat → Prop} {w w' : World} {v : Value} {xs : List α}
theorem mono (hs : ∀ k, k < w.heap.size → S k → S' k) (h : Sl d S w v xs) : Sl d S' w v xs := by
  obtain ⟨A, c, rfl, h1, h2, h3⟩ := h
  refine ⟨A, c, rfl, h1, h2, fun hx => ?_⟩
  obtain ⟨b, o, rfl, hb, hlt, hc⟩ := h3 hx
  refine ⟨b, o, rfl, hs b hlt hb, hlt, fun j x hj => ?_⟩
  obtain ⟨cs, hk, hcell⟩ := hc j x hj
  exact ⟨cs, d.mono hs hk, hcell⟩
theorem move (hm : ∀ k, S k → k < w.heap.size → w'.heap[k]? = w.heap[k]?) (h : Sl d S w v xs) : Sl d S w' v xs := by
  obtain ⟨A, c, rfl, h1, h2, h3⟩ := h
  refine ⟨A, c, rfl, h1, h2, fun hx => ?_⟩
  obtain ⟨b, o, rfl, hb, hlt, hc⟩ := h3 hx
  refine ⟨b, o, rfl, hb, block_same (hm b hb hlt) hlt, fun j x hj => ?_⟩
  obtain ⟨cs, hk, hcell⟩ := hc j x hj
  exact ⟨cs, d.move hm hk, fun i u hu => (World.cell?_of_block (hm b hb hlt)).trans (hcell i u hu)⟩
theorem fr {S1 : Nat → Prop} (hf : Fr S1 w w') (hn : ∀ k, k < w.heap.size → S k → ¬ S1 k) (h : Sl d S w v xs) : Sl d S w' v xs := h.move (fun k hk hlt => hf.block k hlt (hn k hlt hk))
theorem pu (hf : Pu w w') (h : Sl d S w v xs) : Sl d S w' v xs := h.fr hf (fun _ _ _ h => h)
theorem nil (d : Kd α) (S : Nat → Prop) (w : World) : Sl d S w (.slice none 0 0) ([] : List α) := ⟨none, 0, rfl, Nat.le_refl _, by simp [maxLen], fun h => absurd rfl h⟩
theorem shape (h : Sl d S w v xs) : ∃ A c, v = .slice A xs.length c ∧ xs.length ≤ c ∧ c ≤ 9223372036854775807 := by
  obtain ⟨A, c, rfl, h1, h2, _⟩ := h
  exact ⟨A, c, rfl, h1, by simpa [maxLen] using h2⟩
theorem since {w0 : World} (h0 : Pu w0 w) (h1 : Pu w0 w') (hs : ∀ k, S k → k < w0.heap.size) (h : Sl d S w v xs) : Sl d S w' v xs :=
  h.move (fun k hk _ => (h1.block k (hs k hk) (fun h => h)).trans (h0.block k (hs k hk) (fun h => h)).symm)
/-- The cells of element j. -/
theorem at_ {A : Option Addr} {n c : Nat} (h : Sl d S w (.slice A n c) xs) {j : Nat} {x : α} (hj : xs[j]? = some x) : ∃ b o cs, A = some ⟨b, o, none⟩ ∧ S b ∧ b < w.heap.size ∧ d.K S w x cs ∧ ∀ i u, cs[i]? = some u → w.cell? ⟨b, o + j * d.sz + i, none⟩ = some u := by
  obtain ⟨A', c', e, _, _, h3⟩ := h
  injection e with e1 e2 e3
  subst e1
  obtain ⟨b, o, rfl, hb, hlt, hc⟩ := h3 (by rintro rfl; simp at hj)
  obtain ⟨cs, hk, hcell⟩ := hc j x hj
  exact ⟨b, o, cs, rfl, hb, hlt, hk, hcell⟩
end Sl
/-- A value of one cell. -/
def Kd.scalar {α : Type} (enc : α → Value) (h1 : ∀ x, (enc x).oneCell' = true) : Kd α where
  sz := 1
  K := fun _ _ x cs => cs = [enc x]
  len := fun h => by rw [h]; rfl
  one := fun h u hu => by rw [h] at hu; rw [List.mem_singleton.1 hu]; exact h1 _
  mono := fun _ h => h
  move := fun _ h => h
def u8v (c : UInt8) : Value := .int .u8 (c.toNat : Int)
def Kd.u8 : Kd UInt8 := .scalar u8v (fun _ => rfl)
def Kd.int (k : IntKind) : Kd Int := .scalar (Value.int k) (fun _ => rfl)
def Kd.str : Kd ByteArray := .scalar Value.string (fun _ => rfl)
def Kd.bool : Kd Bool := .scalar Value.bool (fun _ => rfl)
/-- A slice in a cell. -/
def Kd.slice {α : Type} (d : Kd α) : Kd (List α) where
  sz := 1
  K := fun S w xs cs => ∃ v, cs = [v] ∧ Sl d S w v xs
  len := fun ⟨v, h, _⟩ => by rw [h]; rfl
  one := fun ⟨v, h, h2⟩ u hu => by
    rw [h] at hu
    obtain ⟨A, c, rfl, _⟩ := h2
    rw [List.mem_singleton.1 hu]
    rfl
  mono := fun hs ⟨v, h, h2⟩ => ⟨v, h, h2.mono hs⟩
  move := fun hm ⟨v, h, h2⟩ => ⟨v, h, h2.move hm⟩
/-- Two kinds in line. -/
def Kd.pair {α β : Type} (a : Kd α) (b : Kd β) : Kd (α × β) where
  sz := a.sz + b.sz
  K := fun S w x cs => ∃ c0 c1, cs = c0 ++ c1 ∧ a.K S w x.1 c0 ∧ b.K S w x.2 c1
  len := fun ⟨c0, c1, h, h0, h1⟩ => by rw [h, List.length_append, a.len h0, b.len h1]
  one := fun ⟨c0, c1, h, h0, h1⟩ u hu => by
    rw [h] at hu
    rcases List.mem_append.1 hu with hu | hu
    · exact a.one h0 u hu
    · exact b.one h1 u hu
  mono := fun hs ⟨c0, c1, h, h0, h1⟩ => ⟨c0, c1, h, a.mono hs h0, b.mono hs h1⟩
  move := fun hm ⟨c0, c1, h, h0, h1⟩ => ⟨c0, c1, h, a.move hm h0, b.move hm h1⟩
/-- A structure by its parts. -/
def Kd.iso {α β : Type} (d : Kd α) (f : β → α) : Kd β where
  sz := d.sz
  K := fun S w x cs => d.K S w (f x) cs
  len := d.len
  one := d.one
  mono := d.mono
  move := d.move

/-! ### Bytes -/
abbrev Bytes := List UInt8
def u8s (l : Bytes) : List Value := l.map u8v
theorem u8s_length (l : Bytes) : (u8s l).length = l.length := by simp [u8s]
theorem u8s_append (a b : Bytes) : u8s (a ++ b) = u8s a ++ u8s b := by simp [u8s]
theorem u8s_one (l : Bytes) : ∀ u ∈ u8s l, u.oneCell' = true := by
  intro u hu
  obtain ⟨_, _, rfl⟩ := List.mem_map.1 hu
  rfl
theorem u8v_wrap (x : Nat) : Value.int .u8 (IntKind.u8.wrap (x : Int)) = u8v (UInt8.ofNat x) := by
  rw [IntKind.wrap_u8]; simp [u8v]
abbrev Bs (S : Nat → Prop) (w : World) (v : Value) (l : Bytes) : Prop := Sl Kd.u8 S w v l
/-- Byte j of a slice. -/
theorem Bs.cell {S : Nat → Prop} {w : World} {A : Option Addr} {n c : Nat} {l : Bytes} (h : Bs S w (.slice A n c) l) {j : Nat} {x : UInt8} (hj : l[j]? = some x) : ∃ b o, A = some ⟨b, o, none⟩ ∧ S b ∧ b < w.heap.size ∧ w.cell? ⟨b, o + j, none⟩ = some (u8v x) := by
  obtain ⟨b, o, cs, e, hb, hlt, hk, hc⟩ := h.at_ hj
  have hk : cs = [u8v x] := hk
  subst hk
  exact ⟨b, o, e, hb, hlt, by have := hc 0 _ rfl; simpa [Kd.u8, Kd.scalar] using this⟩
/-- Byte j, for the walk. -/
theorem Bs.byte {S : Nat → Prop} {w : World} {A : Option Addr} {n c : Nat} {l : Bytes} (h : Bs S w (.slice A n c) l) {j : Nat} (hj : j < l.length) : ∃ b o x, A = some ⟨b, o, none⟩ ∧ b < w.heap.size ∧ x < 256 ∧ Hid (l[j] = UInt8.ofNat x) ∧ w.cell? ⟨b, o + j, none⟩ = some (.int .u8 ((x : Nat) : Int)) := by
  obtain ⟨b, o, e, _, hlt, hc⟩ := h.cell (List.getElem?_eq_getElem hj)
  exact ⟨b, o, l[j].toNat, e, hlt, l[j].toNat_lt, by show _ = _; simp, hc⟩
/-- All bytes: nil and empty slices alike. -/
theorem Bs.cells {S : Nat → Prop} {w : World} {A : Option Addr} {n c : Nat} {l : Bytes} (h : Bs S w (.slice A n c) l) (hl : l ≠ []) : ∃ b o, A = some ⟨b, o, none⟩ ∧ S b ∧ b < w.heap.size ∧ ∀ j u, (u8s l)[j]? = some u → w.cell? ⟨b, o + j, none⟩ = some u := by
  obtain ⟨A', c', e, _, _, h3⟩ := id h
  injection e with e1 e2 e3
  subst e1
  obtain ⟨b, o, rfl, hb, hlt, _⟩ := h3 hl
  refine ⟨b, o, rfl, hb, hlt, fun j u hu => ?_⟩
  obtain ⟨x, hx, rfl⟩ : ∃ x, l[j]? = some x ∧ u = u8v x := by
    simp only [u8s, List.getElem?_map] at hu
    obtain ⟨x, hx, rfl⟩ := Option.map_eq_some_iff.1 hu
    exact ⟨x, hx, rfl⟩
  obtain ⟨b', o', e', _, _, hc⟩ := h.cell hx
  injection e' with e'
  injection e' with e1 e2
  subst e1 e2
  exact hc
/-- A row of the call's own, bytes in it, reads so. -/
theorem Bs.of_own {w : World} {base n : Nat} {e : TypeId} {v : Value} {l : Bytes} (h : w.ownsRow base e 1 v n (u8s l)) : Bs (fun k => v.ownBlock = some k) w v l := by
  have hl : l.length = n := by have := h.1; simpa [u8s] using this
  rcases h.2 with ⟨rfl, h0⟩ | ⟨g, cap, cur, rfl, hb, hg, hn, hm, hs, ht⟩
  · obtain rfl : l = [] := List.eq_nil_of_length_eq_zero (by omega)
    exact Sl.nil _ _ _
  · refine ⟨_, cap, by rw [hl], by omega, hm, fun _ => ⟨g, 0, rfl, rfl, (Array.getElem?_eq_some_iff.1 hg).1, fun j x hj => ⟨[u8v x], rfl, fun i u hu => ?_⟩⟩⟩
    have hi : i = 0 := by
      have := (List.getElem?_eq_some_iff.1 hu).1
      simp at this
      omega
    subst hi
    obtain rfl : u8v x = u := by simpa using hu
    have := h.cells (g := g) rfl j (u8v x) (by simp [u8s, hj])
    simpa [Kd.u8, Kd.scalar, Addr.add_lit] using this

/-! ### append onto a row of the call's own; the source nil, empty or not (after the guide's words) -/
def Rds (w : World) (size : Nat) (A : Option Addr) (n : Nat) (xs : List Value) : Prop :=
  xs.length = n * size ∧ (0 < n → ∃ ad, A = some ad ∧ ∀ j u, xs[j]? = some u → w.cell? (ad.add j) = some u)
theorem Bs.rds {S : Nat → Prop} {w : World} {A : Option Addr} {n c : Nat} {l : Bytes} (h : Bs S w (.slice A n c) l) : Rds w 1 A l.length (u8s l) :=
  ⟨by simp [u8s], fun hn => by
    obtain ⟨b, o, rfl, _, _, hc⟩ := h.cells (by rintro rfl; simp at hn)
    exact ⟨_, rfl, fun j u hu => by rw [Addr.add_lit]; exact hc j u hu⟩⟩
section
variable {P : Program} (w : World)
theorem run_append_of_nil (base : Nat) (t ty e : TypeId) (i : TypeInfo) (size : Nat) (ht : P.underlying t = some (.slice e)) (hi : P.info? e = some i)
    (v : Value) (n : Nat) (xs : List Value) (hown : w.ownsRow base e size v n xs) (c : Nat) : (Builtin.append_ #[t, t] ty #[v, .slice none 0 c]).run P w = .ok v w := by
  rcases hown.2 with ⟨rfl, rfl⟩ | ⟨g, cap, cur, rfl, _, _, hnc, _⟩
  · simp [Builtin.append_, run_underlying ht, sizeOf, typeInfo, hi, Builtin.lenOf, Builtin.firstCells]
  · simp [Builtin.append_, run_underlying ht, sizeOf, typeInfo, hi, Builtin.lenOf, Builtin.firstCells, hnc, storeCells]
theorem run_append_any (base : Nat) (t ty e : TypeId) (z : Value) (size bytes : Nat) (ht : P.underlying t = some (.slice e)) (hinf : (P.info? e).map (fun i => (i.zero, i.size, i.bytes)) = some (some z, size, bytes))
    (hzs : z.cells.size = size) (hsz : 0 < size)
    (v : Value) (n : Nat) (xs : List Value) (hown : w.ownsRow base e size v n xs)
    (A : Option Addr) (m c : Nat) (news : List Value) (hr : Rds w size A m news) (h1 : ∀ u ∈ news, u.oneCell' = true)
    (hlen : n + m ≤ 35184372088832 ∧ (n + m) * bytes ≤ 140737488355328) (hbase : base ≤ w.heap.size) :
    ∃ v' w', (Builtin.append_ #[t, t] ty #[v, .slice A m c]).run P w = .ok v' w' ∧ w'.ownsRow base e size v' (n + m) (xs ++ news) ∧ w.grownBy w' v.ownBlock ∧
      (v'.ownBlock = v.ownBlock ∨ v'.ownBlock = some w.heap.size) := by
  obtain ⟨i, hi, hz, hsize, hby⟩ := info_parts hinf
  rcases A with _ | ad
  · have hm : m = 0 := by
      rcases Nat.eq_zero_or_pos m with h0 | h0
      · exact h0
      · obtain ⟨ad, h, _⟩ := hr.2 h0
        cases h
    subst hm
    have hn : news = [] := List.eq_nil_of_length_eq_zero (by simpa using hr.1)
    subst hn
    exact ⟨v, w, run_append_of_nil w base t ty e i size ht hi v n xs hown c, by simpa using hown, World.grownBy.refl w _, .inl rfl⟩
  · have hcells : ∀ j u, news[j]? = some u → w.cell? (ad.add j) = some u := by
      intro j u hu
      rcases Nat.eq_zero_or_pos m with h0 | h0
      · subst h0
        have hn : news = [] := List.eq_nil_of_length_eq_zero (by simpa using hr.1)
        subst hn
        simp at hu
      · obtain ⟨ad', h, hc⟩ := hr.2 h0
        injection h with h
        subst h
        exact hc j u hu
    obtain ⟨v', w', hrun, h2, h3, _, h5⟩ := run_append_own_at (P := P) w base t ty e i z size bytes ht hi hz hsize hby hzs hsz v n xs hown ad m c news hr.1 hcells h1 (by simp only [maxLen]; omega) hlen.2 hbase
    exact ⟨v', w', hrun, h2, h3, h5⟩
theorem wp_append_any {o : Oper} {a : Act} {K : Act → World → Prop} {Q : Exit → Act → World → Prop} (s x : Operand) (t : TypeId)
    (ho : o.op = .call { callee := .builtin .append, args := #[s, x], argTypes := #[t, t] })
    (base : Nat) (e : TypeId) (z : Value) (size bytes : Nat) (ht : P.underlying t = some (.slice e)) (hinf : (P.info? e).map (fun i => (i.zero, i.size, i.bytes)) = some (some z, size, bytes))
    (hzs : z.cells.size = size) (hsz : 0 < size)
    (v : Value) (n : Nat) (xs : List Value) (hs : a.eval s = v) (hown : w.ownsRow base e size v n xs)
    (A : Option Addr) (m c : Nat) (news : List Value) (hx : a.eval x = .slice A m c) (hr : Rds w size A m news) (h1 : ∀ u ∈ news, u.oneCell' = true)
    (hlen : n + m ≤ 35184372088832 ∧ (n + m) * bytes ≤ 140737488355328) (hbase : base ≤ w.heap.size)
    (h : ∀ v' w', w'.ownsRow base e size v' (n + m) (xs ++ news) → w.grownBy w' v.ownBlock → (v'.ownBlock = v.ownBlock ∨ v'.ownBlock = some w.heap.size) → K (a.put o.dst v') w') : o.wp P a w K Q := by
  obtain ⟨v', w', hrun, h2, h3, h4⟩ := run_append_any (P := P) w base t o.type e z size bytes ht hinf hzs hsz v n xs hown A m c news hr h1 hlen hbase
  unfold Oper.wp execOp
  simp only [ho, resolve, invoke, builtin, Sem.run_bind, Sem.run_pure, Result.andThen_ok, List.map_toArray, List.map_cons, List.map_nil, hs, hx, hrun]
  exact h v' w' h2 h3 h4
theorem wpList_append_any {ops : Array Oper} {rest : List Oper} {o : Oper} {a : Act} {Q : Exit → Act → World → Prop} (hgd : o.guard = none) (s x : Operand) (t : TypeId)
    (ho : o.op = .call { callee := .builtin .append, args := #[s, x], argTypes := #[t, t] })
    (base : Nat) (e : TypeId) (z : Value) (size bytes : Nat) (ht : P.underlying t = some (.slice e)) (hinf : (P.info? e).map (fun i => (i.zero, i.size, i.bytes)) = some (some z, size, bytes))
    (hzs : z.cells.size = size) (hsz : 0 < size)
    (v : Value) (n : Nat) (xs : List Value) (hs : a.eval s = v) (hown : w.ownsRow base e size v n xs)
    (A : Option Addr) (m c : Nat) (news : List Value) (hx : a.eval x = .slice A m c) (hr : Rds w size A m news) (h1 : ∀ u ∈ news, u.oneCell' = true)
    (hlen : n + m ≤ 35184372088832 ∧ (n + m) * bytes ≤ 140737488355328) (hbase : base ≤ w.heap.size)
    (h : ∀ v' w', w'.ownsRow base e size v' (n + m) (xs ++ news) → w.grownBy w' v.ownBlock → (v'.ownBlock = v.ownBlock ∨ v'.ownBlock = some w.heap.size) → wpList P ops Q rest (a.put o.dst v') w') : wpList P ops Q (o :: rest) a w :=
  wpList_plain hgd fun _ hK => wp_append_any w s x t ho base e z size bytes ht hinf hzs hsz v n xs hs hown A m c news hx hr h1 hlen hbase fun v' w' h2 h3 h4 => hK _ _ (h v' w' h2 h3 h4)
theorem step_append_any {ops : Array Oper} {o : Oper} {a : Act} {K : Act → World → Prop} {Q : Exit → Act → World → Prop} {E : Prop} (hgd : o.guard = none) (s x : Operand) (t : TypeId)
    (ho : o.op = .call { callee := .builtin .append, args := #[s, x], argTypes := #[t, t] })
    (base : Nat) (e : TypeId) (z : Value) (size bytes : Nat) (ht : P.underlying t = some (.slice e)) (hinf : (P.info? e).map (fun i => (i.zero, i.size, i.bytes)) = some (some z, size, bytes))
    (hzs : z.cells.size = size) (hsz : 0 < size)
    (v : Value) (n : Nat) (xs : List Value) (hs : a.eval s = v) (hown : w.ownsRow base e size v n xs)
    (A : Option Addr) (m c : Nat) (news : List Value) (hx : a.eval x = .slice A m c) (hr : Rds w size A m news) (h1 : ∀ u ∈ news, u.oneCell' = true)
    (hlen : n + m ≤ 35184372088832 ∧ (n + m) * bytes ≤ 140737488355328) (hbase : base ≤ w.heap.size)
    (h : ∀ v' w', w'.ownsRow base e size v' (n + m) (xs ++ news) → w.grownBy w' v.ownBlock → (v'.ownBlock = v.ownBlock ∨ v'.ownBlock = some w.heap.size) → K (a.put o.dst v') w') :
    if Region.wanted o (yielded ops a.tmps) = true then Oper.wp P o a w K Q else E := by
  have hw : Region.wanted o (yielded ops a.tmps) = true := by simp [Region.wanted, hgd]
  rw [if_pos hw]
  exact wp_append_any w s x t ho base e z size bytes ht hinf hzs hsz v n xs hs hown A m c news hx hr h1 hlen hbase h
end
/-- A block of another element type than the row's is another block. -/
theorem blk_ne {w : World} {g : Nat} {t : TypeId} {cs : Array Value} {base e size n : Nat} {v : Value} {xs : List Value} (h : w.heap[g]? = some (.cells cs t (0, 0))) (ho : w.ownsRow base e size v n xs) (hne : t ≠ e) : some g ≠ v.ownBlock := by
  rcases ho.2 with ⟨rfl, _⟩ | ⟨g', cap, cur, rfl, _, hh, _⟩
  · simp [Value.ownBlock]
  · intro he
    have : g = g' := by simpa [Value.ownBlock] using he
    subst this
    rw [h] at hh; injection hh with hh; injection hh with _ ht; exact hne ht
theorem own_shape {w : World} {base e size n : Nat} {v : Value} {xs : List Value} (h : w.ownsRow base e size v n xs) : ∃ A c, v = .slice A n c := by
  rcases h.2 with ⟨rfl, rfl⟩ | ⟨g, cap, cur, rfl, _⟩
  · exact ⟨none, 0, rfl⟩
  · exact ⟨_, cap, rfl⟩
theorem blk_lt {w : World} {g : Nat} {o : Obj} (h : w.heap[g]? = some o) : g < w.heap.size := (Array.getElem?_eq_some_iff.1 h).1
theorem own_lt {w : World} {base e size n : Nat} {v : Value} {xs : List Value} (h : w.ownsRow base e size v n xs) : ∀ k, v.ownBlock = some k → base ≤ k ∧ k < w.heap.size := fun k hk => h.lt k hk
theorem own_set {w : World} {base e size n : Nat} {v : Value} {xs : List Value} (h : w.ownsRow base e size v n xs) {p : Addr} (hne : some p.block ≠ v.ownBlock) (u : Value) : (w.setCell p u).ownsRow base e size v n xs := by
  obtain ⟨h1, h2⟩ := h
  refine ⟨h1, ?_⟩
  rcases h2 with h2 | ⟨g, cap, cur, rfl, hg, hh, r⟩
  · exact .inl h2
  · exact .inr ⟨g, cap, cur, rfl, hg, by rw [Below.heap_setCell _ _ _ _ (fun e => hne (by rw [← show g = p.block from e]; rfl))]; exact hh, r⟩
theorem own_move {w w1 : World} {base e size n : Nat} {v : Value} {xs : List Value} (h : w.ownsRow base e size v n xs) (hm : ∀ k, v.ownBlock = some k → w1.heap[k]? = w.heap[k]?) : w1.ownsRow base e size v n xs := by
  obtain ⟨h1, h2⟩ := h
  refine ⟨h1, ?_⟩
  rcases h2 with h2 | ⟨g, cap, cur, rfl, hg, hh, r⟩
  · exact .inl h2
  · exact .inr ⟨g, cap, cur, rfl, hg, (hm g (by simp [Value.ownBlock])).trans hh, r⟩
end Go.Proofs.YtaendhbiehknlaaGreatDoor
