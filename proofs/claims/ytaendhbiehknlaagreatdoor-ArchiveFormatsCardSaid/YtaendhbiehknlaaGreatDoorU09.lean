/- What is proved here, of the given program: SHA-256: slices.Chunk, and what its closure hands on. SHA-256: the digest. -/
import Derived.RangeFuncNested
import Derived.RangeFuncBound
import Derived.RangeFuncCalls
import Derived.RangeFuncLeaves
import Derived.Shelf.Abstract
import Derived.Shelf.RegionOpen
import Derived.OwnWalkIn
import Derived.TacticsInMore
import Derived.LoopNIn
import Derived.LoopIn
import Derived.Sort.QuietIn
import Derived.Sort.BigQuietIn
import Derived.Test.YtaendhbiehknlaaGreatDoorU08
set_option linter.unusedVariables false
set_option linter.unusedSimpArgs false
set_option linter.constructorNameAsVariable false
namespace Go.Proofs.YtaendhbiehknlaaGreatDoor
open Go.RowKit Go.Shelf Go.Proofs Go.BigFrame
attribute [local go_sem] Oper.semAt_some

/-- Two blocks stay. -/
def Keep2 (p q : Nat) (W W' : World) : Prop := W'.heap[p]? = W.heap[p]? ∧ W'.heap[q]? = W.heap[q]?
theorem Keep2.refl (p q : Nat) (W : World) : Keep2 p q W W := ⟨rfl, rfl⟩
theorem Keep2.trans {p q : Nat} {A B C : World} (h : Keep2 p q A B) (k : Keep2 p q B C) : Keep2 p q A C := ⟨k.1.trans h.1, k.2.trans h.2⟩
theorem Keep2.put {p q m : Nat} (hp : p < m) (hq : q < m) (W : World) (l : Nat) (o o' : Obj) (hl : m ≤ l) (_ : W.heap[l]? = some o) (_ : o.isCells = false) (_ : o.isWalk = false) : Keep2 p q W (W.putObj l o') :=
  ⟨World.putObj_heap_other (by omega), World.putObj_heap_other (by omega)⟩
/-- The first j chunks. -/
def chunksTo (k : Nat) : Nat → List (Fin k)
  | 0 => []
  | j + 1 => if h : j < k then chunksTo k j ++ [⟨j, h⟩] else chunksTo k j
theorem chunksTo_length (k j : Nat) (h : j ≤ k) : (chunksTo k j).length = j := by
  induction j with
  | zero => rfl
  | succ j ih => rw [chunksTo, dif_pos (by omega)]; simp [ih (by omega)]
set_option maxRecDepth 100000 in
set_option maxHeartbeats 4000000 in
theorem chunk1_in (F : Fence) (n : Nat) (hf : F.fn 314) (hro : F.round = none) (hn : 1 ≤ n) (l Bs Bn b o k c : Nat) (hk : k ≤ 137438953472) (hkc : 64 * k ≤ c) (hc : c ≤ 9223372036854775807) (J Jx : List (Fin k) → World → Prop) (hJd : ∀ pre W n, J pre W → J pre (W.drewN n))
    (hY : ∀ pre (x : Fin k) W, J pre W → pre.length < k → YieldAt F (n - 1) Tryz.prog l #[.slice (some ⟨b, o + 64 * x.1, none⟩) 64 64] W fun e W' =>
      (e = .returned (.bool true) ∧ J (pre ++ [x]) W' ∧ Keep2 Bs Bn W W') ∨ (e = .returned (.bool false) ∧ Jx (pre ++ [x]) W'))
    (W : World) (hBs : W.cell? ⟨Bs, 0, none⟩ = some (.slice (some ⟨b, o, none⟩) (64 * k) c)) (hBn : W.cell? ⟨Bn, 0, none⟩ = some (.int .i64 64)) (h0 : J [] W) :
    CallsIn F n Tryz.prog 314 #[.func (.yield l) #[] #[], .pointer (some ⟨Bs, 0, none⟩), .pointer (some ⟨Bn, 0, none⟩)] W fun e W' => (∃ v, e = .returned v) ∧
      ((∃ ys, ys = chunksTo k k ∧ J ys W') ∨ (∃ pre, (∃ j, j ≤ k ∧ pre = chunksTo k j) ∧ Jx pre W')) := by
  refine callsIn_of_wp Tryz.func314 rfl hf ?_ hro
  simp only [Tryz.ntmps314, List.size_toArray, List.length_cons, List.length_nil, Nat.reduceAdd, Nat.reduceSub, Array.replicate_succ, Array.replicate_zero, List.push_toArray, List.append_toArray, List.nil_append, List.cons_append]
  gi_wp2
  gi_loopw [4] (fun i wr => ∃ j : Nat, j ≤ k ∧ i = .int .i64 ((64 * j : Nat) : Int) ∧ J (chunksTo k j) wr ∧ Keep2 Bs Bn W wr) (fun i _ => 64 * k - (intOf i).toNat)
  case atStart => exact ⟨0, Nat.zero_le _, rfl, h0, Keep2.refl _ _ _⟩
  case round =>
    obtain ⟨j, hj, rfl, hJs, hnx⟩ := hrel
    have hs' := (World.cell?_of_block hnx.1).trans hBs
    have hn' := (World.cell?_of_block hnx.2).trans hBn
    by_cases hlt : j < k
    · gi_wp2
      refine wpIn_region_quiet_lit hro (by kernel_rfl) (by kernel_rfl) ?_
      repeat (gi_big_quiet_step (fail))
      refine wpQuietIn_nil ?_
      intro _ hw'
      obtain ⟨nq, hw''⟩ := hw'
      subst hw''
      obtain ⟨fn, tmps, assign, body, hy, hR⟩ := hY _ ⟨j, hlt⟩ (wr.drewN nq) (hJd _ _ _ hJs) (by rw [chunksTo_length _ _ hj]; exact hlt)
      dsimp only at hy
      gi_wp2
      refine hR.mono ?_
      rintro e W3 (⟨rfl, hJ3, hk3⟩ | ⟨rfl, hJx3⟩)
      · have hn3 : W3.cell? ⟨Bn, 0, none⟩ = some (.int .i64 64) := (World.cell?_of_block hk3.2).trans hn'
        have hw6 : IntKind.i64.wrap (((64 * j : Nat) : Int) + 64) = ((64 * (j + 1) : Nat) : Int) := by rw [IntWalk.i64_in _ (by omega)]; omega
        gi_wp2
        go_roundw
        case rel => exact ⟨j + 1, by omega, by first | rfl | go_num | (simp; omega), by rw [chunksTo, dif_pos hlt]; exact hJ3, hnx.trans ⟨hk3.1, hk3.2⟩⟩
        case measure => simp [intOf]; omega
      · gi_wp2
        refine bodyPost_ret (results_none rfl _ _ _) rfl ?_
        exact ⟨⟨_, rfl⟩, .inr ⟨_, ⟨j + 1, by omega, by rw [chunksTo, dif_pos hlt]⟩, hJx3⟩⟩
    · obtain rfl : j = k := by omega
      gi_wp2
      go_end0
      exact ⟨⟨_, rfl⟩, .inl ⟨_, rfl, hJs⟩⟩
theorem chunksTo_take (k j : Nat) (hj : j ≤ k) : chunksTo k j = (chunksTo k k).take j := by
  have key : ∀ m j, j ≤ m → m ≤ k → chunksTo k j = (chunksTo k m).take j := by
    intro m
    induction m with
    | zero =>
      intro j hj _
      obtain rfl : j = 0 := by omega
      rfl
    | succ m ih =>
      intro j hj hm
      rcases Nat.lt_or_ge m j with h | h
      · obtain rfl : j = m + 1 := by omega
        rw [List.take_of_length_le (by rw [chunksTo_length _ _ hm]; omega)]
      · have e : chunksTo k (m + 1) = chunksTo k m ++ [⟨m, by omega⟩] := by rw [chunksTo, dif_pos (by omega)]
        rw [e, List.take_append_of_le_length (by rw [chunksTo_length _ _ (by omega)]; omega)]
        exact ih j h (by omega)
  exact key k j hj (Nat.le_refl _)
theorem abides_drewN {β : Type} {B : Nat} {J : β → World → Prop} (h : AbidesFrom B J) (s : β) (W : World) (n : Nat) (hs : J s W) : J s (W.drewN n) :=
  h s W _ none hs ⟨rfl, rfl, rfl, Nat.le_refl _, fun _ _ _ => rfl⟩ (fun r e => by cases e)
/-- slices.Chunk hands on chunk behind chunk, of octets that are whole chunks. -/
theorem chunk_stops (F : Fence) (n : Nat) (hf : F.fn 314) (hro : F.round = none) (hn : 1 ≤ n) (Bs Bn b o k c : Nat) (hk : k ≤ 137438953472) (hkc : 64 * k ≤ c) (hc : c ≤ 9223372036854775807) (w : World) (h1 : Bs < w.heap.size) (h2 : Bn < w.heap.size)
    (hBs : w.cell? ⟨Bs, 0, none⟩ = some (.slice (some ⟨b, o, none⟩) (64 * k) c)) (hBn : w.cell? ⟨Bn, 0, none⟩ = some (.int .i64 64)) :
    SeqStopsK F n Tryz.prog 314 #[.pointer (some ⟨Bs, 0, none⟩), .pointer (some ⟨Bn, 0, none⟩)] (fun x : Fin k => #[Value.slice (some ⟨b, o + 64 * x.1, none⟩) 64 64]) (Keep2 Bs Bn) (fun ys => ys = chunksTo k k) (fun pre => pre <+: chunksTo k k) k w := fun l J Jx W hW hJ _ hY h0 => by
  refine (chunk1_in F n hf hro hn l Bs Bn b o k c hk hkc hc J Jx (fun pre W n h => abides_drewN hJ pre W n h) hY W ((hW.cell (p := ⟨Bs, 0, none⟩) h1).trans hBs) ((hW.cell (p := ⟨Bn, 0, none⟩) h2).trans hBn) h0).mono ?_
  rintro e W' ⟨he, ⟨ys, rfl, hj⟩ | ⟨pre, ⟨j, hj, rfl⟩, hj2⟩⟩
  · exact ⟨he, .inl ⟨_, rfl, hj⟩⟩
  · exact ⟨he, .inr ⟨_, by rw [chunksTo_take k j hj]; exact List.take_prefix _ _, hj2⟩⟩
end Go.Proofs.YtaendhbiehknlaaGreatDoor

namespace Go.Proofs.YtaendhbiehknlaaGreatDoor
open Go.RowKit Go.Shelf Go.Proofs Go.BigFrame
attribute [local go_sem] Oper.semAt_some

def W8.start : W8 := ⟨0x6a09e667, 0xbb67ae85, 0x3c6ef372, 0xa54ff53a, 0x510e527f, 0x9b05688c, 0x1f83d9ab, 0x5be0cd19⟩
def chunk (l : Bytes) (i : Nat) : Bytes := (l.drop (64 * i)).take 64
/-- Behind j chunks. -/
def shaTo (l : Bytes) : Nat → W8
  | 0 => W8.start
  | j + 1 => (shaTo l j).mix (chunk l j)
/-- Behind the chunks that have come. -/
def stOf (l : Bytes) {k : Nat} (pre : List (Fin k)) : W8 := pre.foldl (fun s x => s.mix (chunk l x.1)) W8.start
theorem stOf_snoc (l : Bytes) {k : Nat} (pre : List (Fin k)) (x : Fin k) : stOf l (pre ++ [x]) = (stOf l pre).mix (chunk l x.1) := by simp [stOf]
theorem stOf_to (l : Bytes) (k j : Nat) (h : j ≤ k) : stOf l (chunksTo k j) = shaTo l j := by
  induction j with
  | zero => rfl
  | succ j ih => rw [chunksTo, dif_pos (by omega), stOf_snoc, ih (by omega)]; rfl
theorem W8.start_ok : W8.start.ok := by
  show ∀ x ∈ W8.start.list, x < 4294967296
  decide
theorem foldl_ok (l : Bytes) {k : Nat} : ∀ (pre : List (Fin k)) (s : W8), s.ok → (pre.foldl (fun s (x : Fin k) => s.mix (chunk l x.1)) s).ok
  | [], _, h => h
  | _ :: pre, _, _ => foldl_ok l pre _ (W8.ok_add _ _)
theorem stOf_ok (l : Bytes) {k : Nat} (pre : List (Fin k)) : (stOf l pre).ok := foldl_ok l pre _ W8.start_ok
def W8.octets (s : W8) : Bytes := s.list.flatMap fun x => number x 4
def sha (l : Bytes) : Bytes := (shaTo (pad l) ((pad l).length / 64)).octets
set_option maxRecDepth 100000 in
/-- slices.Chunk itself: two boxes, and a closure over them. -/
theorem chunkMake (A : Option Addr) (n c : Nat) (w : World) : Calls Tryz.prog 263 #[.slice A n c, .int .i64 64] w fun e w' =>
    e = .returned (.func (.func 314) #[] #[.pointer (some ⟨w.heap.size, 0, none⟩), .pointer (some ⟨w.heap.size + 1, 0, none⟩)]) ∧ w' = (w.alloc (.cells #[.slice A n c] 23)).alloc (.cells #[.int .i64 64] 3) := by
  have hmf : ∀ (fn : Fn) (first cap : Array Value) (w : World), (Instr.makeFunc fn first cap).run Tryz.prog w = .ok (.func fn first cap) w := fun _ _ _ _ => rfl
  go_enter Tryz.func263, Tryz.ntmps263
  go_wp2
  go_ret
  exact ⟨rfl, rfl⟩
theorem cells_new (w : World) (cs : List Value) (t : TypeId) : ∀ j u, cs[j]? = some u → (w.alloc (.cells cs.toArray t)).cell? ((⟨w.heap.size, 0, none⟩ : Addr).add j) = some u := fun j u hu => by
  rw [Addr.add_lit, Nat.zero_add, cell_of_row _ _ j _ _ _ (heap_alloc_new w _)]
  simpa using hu
theorem wide_fn (k : Nat) : Fence.wide.fn k := trivial
set_option maxRecDepth 100000 in
set_option maxHeartbeats 1000000 in
theorem shaSum (v : Value) (ls : List Bytes) (S : Nat → Prop) (w : World) (hG : Globs w) (hv : Bss S w v ls) (hl : ls.flatten.length ≤ 8796093022000) :
    Calls Tryz.prog 192 #[v] w fun e w' => ∃ v', e = .returned v' ∧ w'.ownsRow w.heap.size 5 1 v' (sha ls.flatten).length (u8s (sha ls.flatten)) ∧ Pu w w' := by
  have HG := Lib.hid hG
  have Hv := Lib.hid hv
  clear hG hv
  refine (callsIn_wide (n := 9)).1 ?_
  refine callsIn_of_wp_marks Tryz.func192 rfl trivial ?_ rfl
  simp only [Tryz.ntmps192, List.size_toArray, List.length_cons, List.length_nil, Nat.reduceAdd, Nat.reduceSub, Array.replicate_succ, Array.replicate_zero, List.push_toArray, List.append_toArray, List.nil_append, List.cons_append]
  have g0 := HG.out.start 0 _ rfl
  have g1 := HG.out.start 1 _ rfl
  have g2 := HG.out.start 2 _ rfl
  have g3 := HG.out.start 3 _ rfl
  have g4 := HG.out.start 4 _ rfl
  have g5 := HG.out.start 5 _ rfl
  have g6 := HG.out.start 6 _ rfl
  have g7 := HG.out.start 7 _ rfl
  gi_wp2_with (first
    | (refine ⟨trivial, ?_⟩; gi_at_call 247; refine (callsIn_wide.2 (concatBytes v ls S _ (Hv.out.pu ((Fr.refl _ _).alloc _)) (by omega))).mono ?_; rintro e w1 ⟨v1, rfl, ho1, hp1⟩; have Ho1 := Lib.hid ho1; have Hp1 := Lib.hid hp1; clear ho1 hp1)
    | (refine ⟨trivial, ?_⟩; gi_at_call 264; refine (callsIn_wide.2 (shaPadded _ v1 ls.flatten w1 Ho1.out Hp1.out (by omega))).mono ?_; rintro e w2 ⟨v2, rfl, ho2, hp2⟩; have Ho2 := Lib.hid ho2; have Hp2 := Lib.hid hp2; obtain ⟨A2, c2, hv2⟩ := own_shape ho2; rw [hv2]; clear ho2 hp2)
    | (refine ⟨trivial, ?_⟩; gi_at_call 263; refine (callsIn_wide.2 (chunkMake _ _ _ w2)).mono ?_; rintro e w3 ⟨rfl, hw3⟩))
  obtain ⟨p, hp⟩ : ∃ p, p = pad ls.flatten := ⟨_, rfl⟩
  have hpm : p.length % 64 = 0 := by rw [hp]; exact pad_mod _
  have hpl : p.length ≤ 8796093022208 := by rw [hp, pad_length, zerosOf]; omega
  have hpn : p ≠ [] := by rw [hp]; simp [pad]
  have hsha : sha ls.flatten = (shaTo p (p.length / 64)).octets := by rw [hp]; rfl
  rw [← hp] at Ho2 hv2 hw3 ⊢
  obtain ⟨k, hk⟩ : ∃ k, p.length = 64 * k := ⟨p.length / 64, by omega⟩
  have hb2 := Bs.of_own Ho2.out
  have hlt2 := own_lt Ho2.out
  rw [hv2] at hb2 hlt2
  obtain ⟨b, o, hA, hSb, hblt, -⟩ := Bs.cells hb2 hpn
  subst hA
  have hc2 : p.length ≤ c2 ∧ c2 ≤ 9223372036854775807 := by
    obtain ⟨A', c', e, h1, h2⟩ := hb2.shape
    injection e with _ _ e
    subst e
    exact ⟨h1, h2⟩
  have hbw : w.heap.size + 1 ≤ b := by
    have := (hlt2 b rfl).1
    simpa using this
  rw [hk] at hv2 hw3 ⊢
  have Hb2 := Lib.hid hb2
  have Hsha := Lib.hid hsha
  clear hb2 hlt2 hsha hp
  have hp3 : Pu w w3 := by rw [hw3]; exact ((((Fr.refl _ _).alloc _).pu Hp2.out).alloc _).alloc _
  have hsz : w2.heap.size + 2 = w3.heap.size := by rw [hw3]; simp
  have hsz2 : w.heap.size + 1 ≤ w2.heap.size := by have := Hp2.out.size; simpa using this
  have ha3 : Arr w3 w.heap.size 413 W8.start.cells := by
    have h1 : Arr w2 w.heap.size 413 W8.start.cells := (Hp2.out.block _ (by simp) (fun h => h)).trans (heap_alloc_new _ _)
    rw [hw3]
    exact (heap_alloc_old _ _ _ (by simp; omega)).trans ((heap_alloc_old _ _ _ (by omega)).trans h1)
  have hBs : w3.cell? ⟨w2.heap.size, 0, none⟩ = some (.slice (some ⟨b, o, none⟩) (64 * k) c2) := by
    rw [hw3, cell_of_row _ _ _ _ _ _ ((heap_alloc_old _ _ _ (by simp)).trans (heap_alloc_new _ _))]; rfl
  have hBn : w3.cell? ⟨w2.heap.size + 1, 0, none⟩ = some (.int .i64 64) := by
    rw [hw3, cell_of_row _ _ _ _ _ _ (heap_alloc2_new _ _ _)]; rfl
  have hb3 : Bs (fun m => some b = some m) w3 (.slice (some ⟨b, o, none⟩) p.length c2) p := by
    rw [hw3]
    exact Hb2.out.move (fun m hm hlt => (heap_alloc_old _ _ _ (by simp; omega)).trans (heap_alloc_old _ _ _ hlt))
  rw [← hw3]
  have Hp3 := Lib.hid hp3
  have Ha3 := Lib.hid ha3
  have Hb3 := Lib.hid hb3
  have HBs := Lib.hid hBs
  have HBn := Lib.hid hBn
  clear hp3 ha3 hb3 hBs hBn Hb2 hw3 Ho1 Hp1 Ho2 Hp2 g0 g1 g2 g3 g4 g5 g6 g7 hv2
  refine wpIn_rangeFunc_ownG rfl (by omega) (gf := 314) (lb := #[.pointer (some ⟨w2.heap.size, 0, none⟩), .pointer (some ⟨w2.heap.size + 1, 0, none⟩)]) rfl trivial (enters_of Tryz.func314 (by kernel_rfl) rfl)
    (chunk_stops Fence.wide (9 - 1) trivial rfl (by omega) w2.heap.size (w2.heap.size + 1) b o k c2 (by omega) (by omega) hc2.2 w3 (by omega) (by omega) HBs.out HBn.out)
    Keep2.trans (fun W l o o' hl h1 h2 h3 => Keep2.put (by omega) (by omega) W l o o' hl h1 h2 h3) (Below.refl _ _) (fun _ => rfl)
    (fun pre W => Arr W w.heap.size 413 (stOf p pre).cells ∧ Fr (fun m => m = w.heap.size) w3 W)
    (fun _ _ _ => False)
    (fun s A B row hs hg hr => ⟨hs.1.move (hg.block _ hs.1.lt (fun e => by have := (hr _ e.symm).1; omega)), hs.2.grown hg (fun m hm e => by have := (hr _ e).1; omega)⟩)
    (fun _ _ _ _ _ hs _ _ => hs)
    ⟨Ha3.out, Fr.refl _ _⟩
    (fun x => { tmps := #[v, undef, .slice none 0 0, .pointer (some ⟨w.heap.size, 0, none⟩), .slice (some ⟨b, o + 64 * x.1, none⟩) 64 64, undef, undef, undef,
      .agg #[.int .u32 1779033703, .int .u32 3144134277, .int .u32 1013904242, .int .u32 2773480762, .int .u32 1359893119, .int .u32 2600822924, .int .u32 528734635, .int .u32 1541459225], v, v1, .slice (some ⟨b, o, none⟩) (64 * k) c2,
      .func (.func 314) #[] #[.pointer (some ⟨w2.heap.size, 0, none⟩), .pointer (some ⟨w2.heap.size + 1, 0, none⟩)], .slice (some ⟨b, o + 64 * x.1, none⟩) 64 64, undef, undef, undef, undef, undef, undef, undef, undef, undef, undef, undef, undef, undef, undef, undef, undef, undef, undef, undef, undef, undef, undef, undef], defers := [] }) ?assign ?body ?done ?stop
  case assign =>
    intro l x W K hK
    gi_wp2
    exact hK
  case body =>
    rintro l pre x W ⟨ha, hf⟩ hlen
    have hx := x.2
    have hG : Globs W := HG.out.pu (Hp3.out.trans hf (fun m hm e => by have e : m = w.heap.size := e; omega))
    have hbx : Bs (fun m => some b = some m) W (.slice (some ⟨b, o + 64 * x.1, none⟩) 64 64) (chunk p x.1) := by
      have h1 := Bs.drop (k := 64 * x.1) (Hb3.out.fr hf (fun m _ e e2 => by have e2 : m = w.heap.size := e2; injection e with e; omega)) (by omega)
      rw [if_neg (by omega)] at h1
      have h2 := Bs.take (k := 64) (c' := 64) h1 (by rw [List.length_drop]; omega) (Nat.le_refl _) (by decide)
      simpa [Addr.add_lit, chunk] using h2
    have hlx : (chunk p x.1).length = 64 := by rw [chunk, List.length_take, List.length_drop]; omega
    have hok := stOf_ok p pre
    obtain ⟨mx, hmx⟩ : ∃ mx, mx = (stOf p pre).mix (chunk p x.1) := ⟨_, rfl⟩
    have hC := fun hG hbx => shaMix (stOf p pre) (.slice (some ⟨b, o + 64 * x.1, none⟩) 64 64) (chunk p x.1) (fun m => some b = some m) W hG hbx hlx hok
    have hC := hC hG hbx
    rw [← hmx] at hC
    generalize hst : stOf p pre = st at *
    have Hst := Lib.hid hst
    clear hst
    have c0 := ha.cell (j := 0) rfl
    have c1 := ha.cell (j := 1) rfl
    have c2 := ha.cell (j := 2) rfl
    have c3 := ha.cell (j := 3) rfl
    have c4 := ha.cell (j := 4) rfl
    have c5 := ha.cell (j := 5) rfl
    have c6 := ha.cell (j := 6) rfl
    have c7 := ha.cell (j := 7) rfl
    have HC := Lib.hid hC
    have Ha := Lib.hid ha
    have Hf := Lib.hid hf
    have Hmx := Lib.hid hmx
    clear hC ha hf hmx hG hbx hok
    unfold W8.v at HC
    gi_wp2_with (refine ⟨trivial, ?_⟩; gi_at_call 265; refine (CallsIn.inRound l (callsIn_wide.2 HC.out)).mono ?_; rintro e w4 ⟨rfl, hp4⟩; have ha4 := Ha.out.move (hp4.block _ Ha.out.lt (fun h => h)); have d0 := ha4.cell (j := 0) rfl; have z0 := ha4.frozen 0; have d1 := ha4.cell (j := 1) rfl; have z1 := ha4.frozen 1; have d2 := ha4.cell (j := 2) rfl; have z2 := ha4.frozen 2; have d3 := ha4.cell (j := 3) rfl; have z3 := ha4.frozen 3; have d4 := ha4.cell (j := 4) rfl; have z4 := ha4.frozen 4; have d5 := ha4.cell (j := 5) rfl; have z5 := ha4.frozen 5; have d6 := ha4.cell (j := 6) rfl; have z6 := ha4.frozen 6; have d7 := ha4.cell (j := 7) rfl; have z7 := ha4.frozen 7; have Ha4 := Lib.hid ha4; have Hp4 := Lib.hid hp4; clear ha4 hp4)
    have hset := Ha4.out.setAll mx.cells rfl
    have hfr : Fr (fun m => m = w.heap.size) W (w4.setCells w.heap.size 0 mx.cells) := Fr.setCells (Hp4.out.mono (fun _ _ h => h.elim)) _ _ _ (fun _ => rfl)
    refine ⟨⟨hfr.size, fun m ob hm hmo _ => (hfr.block m (Array.getElem?_eq_some_iff.1 hmo).1 (fun e => by have e : m = w.heap.size := e; omega)).trans hmo⟩, ⟨?_, ?_⟩, ?_, ?_⟩
    · exact hfr.block _ (by have := Hf.out.size; omega) (fun e => by have e : w2.heap.size = w.heap.size := e; omega)
    · exact hfr.block _ (by have := Hf.out.size; omega) (fun e => by have e : w2.heap.size + 1 = w.heap.size := e; omega)
    · rw [stOf_snoc, Hst.out, ← Hmx.out]
      exact hset
    · exact Hf.out.trans hfr (fun m _ h => h)
  case done =>
    rintro D ys W hD rfl ⟨ha, hf⟩ hK
    rw [stOf_to p k k (Nat.le_refl _)] at ha
    have hk64 : p.length / 64 = k := by omega
    rw [hk64] at Hsha
    generalize hst : shaTo p k = st at *
    have hp0 : Pu w W := Hp3.out.trans hf (fun m hm e => by have e : m = w.heap.size := e; omega)
    have c0 := ha.cell (j := 0) rfl
    have c1 := ha.cell (j := 1) rfl
    have c2 := ha.cell (j := 2) rfl
    have c3 := ha.cell (j := 3) rfl
    have c4 := ha.cell (j := 4) rfl
    have c5 := ha.cell (j := 5) rfl
    have c6 := ha.cell (j := 6) rfl
    have c7 := ha.cell (j := 7) rfl
    have HK := Lib.hid hK
    have Hp0 := Lib.hid hp0
    clear hK hp0 ha hf hst
    gi_wp2
    gi_loopw [5, 18] (fun x i wr => ∃ j : Nat, j ≤ 8 ∧ i = .int .i64 j ∧ wr.ownsRow w.heap.size 5 1 x (4 * j) (u8s ((st.list.take j).flatMap fun y => number y 4)) ∧ Pu w wr ∧ wr.heap[D]? = some (.deferred (some []))) (fun _ i _ => 8 - (intOf i).toNat)
    case atStart => exact ⟨0, by omega, rfl, World.ownsRow_nil _ _ _ _, Hp0.out, HK.out⟩
    case round =>
      obtain ⟨j, hj, rfl, ho, hp, hk'⟩ := hrel
      have Ho := Lib.hid ho
      have Hp := Lib.hid hp
      have HK' := Lib.hid hk'
      clear ho hp hk'
      by_cases h8 : j < 8
      · obtain ⟨y, hy⟩ : ∃ y, st.list[j]? = some y := ⟨_, List.getElem?_eq_getElem h8⟩
        have hidx := run_index_agg (P := Tryz.prog) 413 360 8 _ st.cells j (.int .u32 (y : Nat)) wr Tryz.underlying413 Tryz.underlying360 rfl (by kernel_rfl) h8 (u32s_get (l := st.list) hy)
        have hidx : (Instr.index 413 (.agg #[.int .u32 st.a, .int .u32 st.b, .int .u32 st.c, .int .u32 st.d, .int .u32 st.e, .int .u32 st.f, .int .u32 st.g, .int .u32 st.h]) (.int .i64 (j : Int))).run Tryz.prog wr = .ok (.int .u32 (y : Nat)) wr := hidx
        obtain ⟨A5, c5, rfl⟩ := own_shape Ho.out
        obtain ⟨i0, hi, hz0, hz1, hz2⟩ := info_parts infoU8
        have hb1 : 4 * j + 4 ≤ maxLen := by simp only [maxLen]; omega
        have hb3 : w.heap.size ≤ wr.heap.size + 1 := by have := Hp.out.size; omega
        gi_wp2_with (gi_at_builtin; refine wpListIn_append_own _ rfl (.tmp 21) (.tmp 33) 23 rfl w.heap.size 5 i0 (.int .u8 0) 1 1 Tryz.underlying23 hi hz0 hz1 hz2 rfl (by decide) _ (4 * j) _ rfl (Ho.out.alloc _) ⟨wr.heap.size, 0, none⟩ 4 4 [_, _, _, _] rfl rfl (cells_new wr [_, _, _, _] _) (by simp [Value.oneCell']) hb1 (by omega) (by simpa using hb3) ?_; intro v5 w5 hown hgrow _)
        refine ⟨⟨j + 1, by omega, by go_num, ?_, ?_, ?_⟩, by simp [intOf]; omega⟩
        · have e1 : [Value.int .u8 ((y : Int) / 16777216 % 256), .int .u8 ((y : Int) / 65536 % 256), .int .u8 ((y : Int) / 256 % 256), .int .u8 ((y : Int) % 256)] = u8s (number y 4) := by
            have h0 := u8v_wrap (y / 16777216)
            have h1 := u8v_wrap (y / 65536)
            have h2 := u8v_wrap (y / 256)
            have h3 := u8v_wrap y
            rw [IntKind.wrap_u8] at h0 h1 h2 h3
            simp only [number, u8s, List.map_cons, List.map_nil, ← u8v_wrap]
            simp [IntKind.wrap_u8]
          rw [e1, ← u8s_append] at hown
          have e2 : (st.list.take j).flatMap (fun y => number y 4) ++ number y 4 = (st.list.take (j + 1)).flatMap fun y => number y 4 := by
            rw [List.take_add_one, hy, List.flatMap_append]; simp
          rw [e2] at hown
          exact hown
        · exact (Hp.out.alloc _).grown hgrow (fun m hm e => by have := (own_lt Ho.out m e).1; omega)
        · refine (hgrow.block D (by have := blk_lt HK'.out; simp; omega) (fun e => ?_)).trans ((heap_alloc_old _ _ _ (blk_lt HK'.out)).trans HK'.out)
          have e : some D = (Value.slice A5 (4 * j) c5).ownBlock := e
          rcases Ho.out.2 with ⟨h, _⟩ | ⟨g, cap, cur, h, _, hh, _⟩
          · rw [h] at e; simp [Value.ownBlock] at e
          · rw [h] at e
            have e : D = g := by simpa [Value.ownBlock] using e
            have h3 := HK'.out
            rw [e, hh] at h3
            cases h3
      · obtain rfl : j = 8 := by omega
        obtain ⟨A5, c5, rfl⟩ := own_shape Ho.out
        gi_wp2
        refine ⟨by simp, .inl ⟨_, _, rfl, run_takeDeferred HK'.out, ?_⟩⟩
        have hrow := ownsRow_putObj Ho.out (.deferred none) HK'.out rfl
        have hl : (sha ls.flatten) = st.list.flatMap fun y => number y 4 := Hsha.out
        have h32 : (st.list.flatMap fun y => number y 4).length = 4 * 8 := by simp [W8.list, number_length]
        refine ⟨_, results_tmp rfl _ _ _, _, rfl, ?_, Hp.out.grown (grownBy_putObj' wr D (.deferred none)) (fun m hm e => by have := Hp3.out.size; injection e with e; omega)⟩
        rw [hl, h32]
        exact hrow
  case stop =>
    rintro D c pre W _ _ h _
    exact h.elim
end Go.Proofs.YtaendhbiehknlaaGreatDoor
