/- What is proved here, of the given program: SHA-256: a block is mixed in. SHA-256: what follows the octets. -/
import Derived.Test.YtaendhbiehknlaaGreatDoorU07
set_option linter.unusedVariables false
set_option linter.unusedSimpArgs false
set_option linter.constructorNameAsVariable false
namespace Go.Proofs.YtaendhbiehknlaaGreatDoor
open Go.RowKit Go.Proofs

def Ks : List Nat := [0x428a2f98, 0x71374491, 0xb5c0fbcf, 0xe9b5dba5, 0x3956c25b, 0x59f111f1, 0x923f82a4, 0xab1c5ed5, 0xd807aa98, 0x12835b01, 0x243185be, 0x550c7dc3, 0x72be5d74, 0x80deb1fe, 0x9bdc06a7, 0xc19bf174,
  0xe49b69c1, 0xefbe4786, 0x0fc19dc6, 0x240ca1cc, 0x2de92c6f, 0x4a7484aa, 0x5cb0a9dc, 0x76f988da, 0x983e5152, 0xa831c66d, 0xb00327c8, 0xbf597fc7, 0xc6e00bf3, 0xd5a79147, 0x06ca6351, 0x14292967,
  0x27b70a85, 0x2e1b2138, 0x4d2c6dfc, 0x53380d13, 0x650a7354, 0x766a0abb, 0x81c2c92e, 0x92722c85, 0xa2bfe8a1, 0xa81a664b, 0xc24b8b70, 0xc76c51a3, 0xd192e819, 0xd6990624, 0xf40e3585, 0x106aa070,
  0x19a4c116, 0x1e376c08, 0x2748774c, 0x34b0bcb5, 0x391c0cb3, 0x4ed8aa4a, 0x5b9cca4f, 0x682e6ff3, 0x748f82ee, 0x78a5636f, 0x84c87814, 0x8cc70208, 0x90befffa, 0xa4506ceb, 0xbef9a3f7, 0xc67178f2]
def H0s : List Nat := [0x6a09e667, 0xbb67ae85, 0x3c6ef372, 0xa54ff53a, 0x510e527f, 0x9b05688c, 0x1f83d9ab, 0x5be0cd19]
def ch (e f g : Nat) : Nat := Nat.xor (Nat.land e f) (Nat.land (Nat.xor 4294967295 e) g)
def maj (a b c : Nat) : Nat := Nat.xor (Nat.xor (Nat.land a b) (Nat.land a c)) (Nat.land b c)
def tOf (e f g h k x : Nat) : Nat := w32 (h + xor3 e 6 11 25 + ch e f g + k + x)
def uOf (a b c : Nat) : Nat := w32 (xor3 a 2 13 22 + maj a b c)
/-- The eight words. -/
structure W8 where
  (a b c d e f g h : Nat)
def W8.zero : W8 := ⟨0, 0, 0, 0, 0, 0, 0, 0⟩
def W8.list (s : W8) : List Nat := [s.a, s.b, s.c, s.d, s.e, s.f, s.g, s.h]
def W8.ok (s : W8) : Prop := ∀ x ∈ s.list, x < 4294967296
def W8.round (s : W8) (k x : Nat) : W8 :=
  let t := tOf s.e s.f s.g s.h k x
  ⟨w32 (t + uOf s.a s.b s.c), s.a, s.b, s.c, w32 (s.d + t), s.e, s.f, s.g⟩
def W8.add (s t : W8) : W8 := ⟨w32 (s.a + t.a), w32 (s.b + t.b), w32 (s.c + t.c), w32 (s.d + t.d), w32 (s.e + t.e), w32 (s.f + t.f), w32 (s.g + t.g), w32 (s.h + t.h)⟩
/-- Behind i rounds. -/
def W8.rounds (s : W8) (ws : List Nat) : Nat → W8
  | 0 => s
  | i + 1 => (s.rounds ws i).round (Ks.getD i 0) (ws.getD i 0)
def W8.mix (s : W8) (b : Bytes) : W8 := s.add (s.rounds (spread b) 64)
theorem W8.ok_round {s : W8} (h : s.ok) (k x : Nat) : (s.round k x).ok := by
  intro y hy
  simp only [W8.list, W8.round, List.mem_cons, List.not_mem_nil, or_false] at hy
  have key : ∀ z ∈ s.list, z < 4294967296 := h
  simp only [W8.list, List.mem_cons, List.not_mem_nil, or_false] at key
  rcases hy with rfl | rfl | rfl | rfl | rfl | rfl | rfl | rfl
  · exact w32_lt _
  · exact key _ (by simp)
  · exact key _ (by simp)
  · exact key _ (by simp)
  · exact w32_lt _
  · exact key _ (by simp)
  · exact key _ (by simp)
  · exact key _ (by simp)
theorem W8.ok_rounds {s : W8} (h : s.ok) (ws : List Nat) (i : Nat) : (s.rounds ws i).ok := by
  induction i with
  | zero => exact h
  | succ i ih => exact W8.ok_round ih _ _
theorem W8.ok_add (s t : W8) : (s.add t).ok := by
  intro y hy
  simp only [W8.list, W8.add, List.mem_cons, List.not_mem_nil, or_false] at hy
  rcases hy with rfl | rfl | rfl | rfl | rfl | rfl | rfl | rfl <;> exact w32_lt _
def W8.v (s : W8) : Value := .agg #[.int .u32 s.a, .int .u32 s.b, .int .u32 s.c, .int .u32 s.d, .int .u32 s.e, .int .u32 s.f, .int .u32 s.g, .int .u32 s.h]
def W8.cells (s : W8) : List Value := [.int .u32 s.a, .int .u32 s.b, .int .u32 s.c, .int .u32 s.d, .int .u32 s.e, .int .u32 s.f, .int .u32 s.g, .int .u32 s.h]
/-- What the package's variables read as. -/
structure Globs (w : World) : Prop where
  start : w.rangeAt 1 0 (u32s H0s)
  rounds : w.rangeAt 2 0 (u32s Ks)
theorem range_move {w w' : World} {g : Nat} {cs : List Value} (h : w.rangeAt g 0 cs) (hp : Pu w w') : w'.rangeAt g 0 cs := fun j v hj => by
  have h1 := h j v hj
  rw [hp.pcell g _ (block_lt_of_cell h1)]; exact h1
theorem Globs.pu {w w' : World} (h : Globs w) (hp : Pu w w') : Globs w' := ⟨range_move h.1 hp, range_move h.2 hp⟩
theorem Globs.fr {S : Nat → Prop} {w w' : World} (h : Globs w) (hp : Fr S w w') (hs : ∀ k, S k → 8 ≤ k) : Globs w' := by
  have key : ∀ g cs, g < 8 → w.rangeAt g 0 cs → w'.rangeAt g 0 cs := fun g cs hg h j v hj => by
    have h1 := h j v hj
    rw [hp.cell g _ (block_lt_of_cell h1) (fun hh => by have := hs g hh; omega)]; exact h1
  exact ⟨key _ _ (by decide) h.1, key _ _ (by decide) h.2⟩
theorem u32_and' (a b : Nat) (ha : a < 4294967296) (hb : b < 4294967296) : bits .and .u32 (a : Int) (b : Int) = ((Nat.land a b : Nat) : Int) := u32_and_nat a b ha hb
theorem spread_length (l : Bytes) : (spread l).length = 64 := by simp [spread, wordsTo_length]
theorem spread_lt (l : Bytes) : ∀ x ∈ spread l, x < 4294967296 := fun x hx => wordsTo_lt l 64 x (by simpa [spread] using hx)

theorem info8 : (Tryz.prog.info? 413).map (·.size) = some 8 := by kernel_rfl
theorem wpList_store8 {P : Program} {ops : Array Oper} {rest : List Oper} {op : Oper} {a : Act} {w : World} {Q : Exit → Act → World → Prop} (hgd : op.guard = none) (ty : TypeId) (x y : Operand) (ho : op.op = .store ty x y)
    (b : Nat) (v0 v1 v2 v3 v4 v5 v6 v7 : Value) (hx : a.eval x = .pointer (some ⟨b, 0, none⟩)) (hy : a.eval y = .agg #[v0, v1, v2, v3, v4, v5, v6, v7])
    (ht : w.there b 0 8) (hi : (P.info? ty).map (·.size) = some 8) (h1 : ∀ v ∈ [v0, v1, v2, v3, v4, v5, v6, v7], v.oneCell' = true)
    (h : wpList P ops Q rest (a.put op.dst undef) (w.setCells b 0 [v0, v1, v2, v3, v4, v5, v6, v7])) : wpList P ops Q (op :: rest) a w :=
  wpList_store_mid hgd ty x y ho b 0 #[v0, v1, v2, v3, v4, v5, v6, v7] hx hy ht hi (all_oneCell_toArray (cs := [v0, v1, v2, v3, v4, v5, v6, v7]) h1) h
theorem shaT1 (x : Nat) (w : World) (hx : x < 4294967296) : Calls Tryz.prog 316 #[.int .u32 x, .int .i64 6, .int .i64 11, .int .i64 25] w fun e w' => e = .returned (.int .u32 (xor3 x 6 11 25)) ∧ w = w' := shaTurned x 6 11 25 w hx (by decide) (by decide) (by decide)
theorem shaT0 (x : Nat) (w : World) (hx : x < 4294967296) : Calls Tryz.prog 316 #[.int .u32 x, .int .i64 2, .int .i64 13, .int .i64 22] w fun e w' => e = .returned (.int .u32 (xor3 x 2 13 22)) ∧ w = w' := shaTurned x 2 13 22 w hx (by decide) (by decide) (by decide)
set_option maxRecDepth 100000 in
set_option maxHeartbeats 1000000 in
theorem shaMix (s : W8) (v : Value) (l : Bytes) (S : Nat → Prop) (w : World) (hG : Globs w) (hv : Bs S w v l) (hl : l.length = 64) (hs : s.ok) :
    Calls Tryz.prog 265 #[s.v, v] w fun e w' => e = .returned (s.mix l).v ∧ Pu w w' := by
  have Hl := Lib.hid hl
  have HG := Lib.hid hG
  have Hs := Lib.hid hs
  have Hv := Lib.hid hv
  clear hl hG hs hv
  obtain ⟨mx, hmx⟩ : ∃ mx, mx = s.mix l := ⟨_, rfl⟩
  rw [← hmx]
  have Hmx := Lib.hid hmx
  clear hmx
  unfold W8.v
  go_enter Tryz.func265, Tryz.ntmps265
  go_wp2_with fail
  refine (shaSpread v l S _ (Hv.out.pu (((Fr.refl _ _).alloc _).alloc _ |>.alloc _)) Hl.out).mono ?_
  rintro e w1 ⟨rfl, hp⟩
  have Hp := Lib.hid hp
  clear hp
  have hlen : (u32s (spread l)).length = 64 := by rw [u32s_length, spread_length]
  have hget : ∀ j, j < 64 → (u32s (spread l))[j]? = some (.int .u32 ((spread l).getD j 0 : Nat)) := fun j hj => u32s_get (by
    have := spread_length l
    rw [List.getD_eq_getElem?_getD, List.getElem?_eq_getElem (by omega)]; rfl)
  have hgb : ∀ j, j < 64 → (spread l).getD j 0 < 4294967296 := fun j hj => spread_lt l _ (by
    have := spread_length l
    rw [List.getD_eq_getElem?_getD, List.getElem?_eq_getElem (by omega)]; exact List.getElem_mem _)
  generalize u32s (spread l) = ws at *
  have Hget := Lib.hid hget
  have Hgb := Lib.hid hgb
  clear hget hgb
  go_wp2
  go_loopw [16] (fun i wr => ∃ j : Nat, j ≤ 64 ∧ i = .int .i64 j ∧ Arr wr (w.heap.size + 1 + 1) 413 (s.rounds (spread l) j).cells ∧ Arr wr w.heap.size 413 s.cells ∧ Arr wr (w.heap.size + 1) 413 W8.zero.cells ∧ Pu w wr) (fun i _ => 64 - (intOf i).toNat)
  case atStart =>
    refine ⟨0, by omega, rfl, ?_, ?_, ?_, ?_⟩
    · exact (Hp.out.block _ (by simp) (fun h => h)).trans (heap_alloc3_new _ _ _ _)
    · exact (Hp.out.block _ (by simp; omega) (fun h => h)).trans ((heap_alloc_old _ _ (by simp; omega)).trans ((heap_alloc_old _ _ (by simp)).trans (heap_alloc_new _ _)))
    · exact (Hp.out.block _ (by simp) (fun h => h)).trans ((heap_alloc_old _ _ (by simp)).trans (heap_alloc2_new _ _ _))
    · exact ((((Fr.refl _ _).alloc _).alloc _).alloc _).pu Hp.out
  case round =>
    obtain ⟨j, hj, rfl, ha, h0, h4, hp⟩ := hrel
    clear Hp
    have H4 := Lib.hid h4
    clear h4
    have Ha := Lib.hid ha
    have H0 := Lib.hid h0
    have Hp := Lib.hid hp
    clear ha h0 hp
    by_cases h64 : j < 64
    · have hok := W8.ok_rounds Hs.out (spread l) j
      obtain ⟨st, hst⟩ : ∃ st, st = s.rounds (spread l) j := ⟨_, rfl⟩
      rw [← hst] at Ha hok
      have Hst := Lib.hid hst
      clear hst
      have c0 := Ha.out.cell (j := 0) rfl
      have c1 := Ha.out.cell (j := 1) rfl
      have c2 := Ha.out.cell (j := 2) rfl
      have c3 := Ha.out.cell (j := 3) rfl
      have c4 := Ha.out.cell (j := 4) rfl
      have c5 := Ha.out.cell (j := 5) rfl
      have c6 := Ha.out.cell (j := 6) rfl
      have c7 := Ha.out.cell (j := 7) rfl
      have hx := Hget.out j h64
      have hxl := Hgb.out j h64
      obtain ⟨x, hxe⟩ : ∃ x, x = (spread l).getD j 0 := ⟨_, rfl⟩
      rw [← hxe] at hx hxl
      have hk := (HG.out.pu Hp.out).rounds j (.int .u32 (Ks.getD j 0 : Nat)) (u32s_get (by rw [List.getD_eq_getElem?_getD, List.getElem?_eq_getElem (show j < Ks.length from h64)]; rfl))
      rw [Nat.zero_add] at hk
      have hkl : Ks.getD j 0 < 4294967296 := by
        have : ∀ x ∈ Ks, x < 4294967296 := by decide
        exact this _ (by rw [List.getD_eq_getElem?_getD, List.getElem?_eq_getElem (show j < Ks.length from h64)]; exact List.getElem_mem _)
      obtain ⟨k, hke⟩ : ∃ k, k = Ks.getD j 0 := ⟨_, rfl⟩
      rw [← hke] at hk hkl
      have Hxe := Lib.hid hxe
      have Hke := Lib.hid hke
      have Hok := Lib.hid hok
      clear hxe hke hok
      obtain ⟨a, b, c, d, e, f, g, h⟩ := st
      have hidx := run_index_agg (P := Tryz.prog) 447 360 64 _ ws j _ wr Tryz.underlying447 Tryz.underlying360 rfl (by kernel_rfl) h64 hx
      have hb : ∀ y ∈ W8.list ⟨a, b, c, d, e, f, g, h⟩, y < 4294967296 := Hok.out
      simp only [W8.list, List.mem_cons, List.not_mem_nil, or_false, forall_eq_or_imp, forall_eq] at hb
      obtain ⟨ba, bb, bc, bd, be, bf, bg, bh⟩ := hb
      have and32 : ∀ {a b : Nat}, a < 4294967296 → Nat.land a b < 4294967296 := fun {a b} h => Nat.lt_of_le_of_lt (Nat.and_le_left) h
      obtain ⟨X, hX, hT1⟩ : ∃ X, X = xor3 e 6 11 25 ∧ ∀ wx, Calls Tryz.prog 316 #[.int .u32 e, .int .i64 6, .int .i64 11, .int .i64 25] wx fun e w' => e = .returned (.int .u32 X) ∧ wx = w' := ⟨_, rfl, fun wx => shaT1 e wx be⟩
      obtain ⟨Y, hY, hT0⟩ : ∃ X, X = xor3 a 2 13 22 ∧ ∀ wx, Calls Tryz.prog 316 #[.int .u32 a, .int .i64 2, .int .i64 13, .int .i64 22] wx fun e w' => e = .returned (.int .u32 X) ∧ wx = w' := ⟨_, rfl, fun wx => shaT0 a wx ba⟩
      obtain ⟨n1, hn1, f1⟩ : ∃ n, n = Nat.land e f ∧ bits .and .u32 (e : Int) (f : Int) = (n : Int) := ⟨_, rfl, u32_and' e f be bf⟩
      obtain ⟨n2, hn2, f2⟩ : ∃ n, n = Nat.xor 4294967295 e ∧ bits .xor .u32 IntKind.u32.max (e : Int) = (n : Int) := ⟨_, rfl, u32_xor' 4294967295 e (by decide) be⟩
      obtain ⟨n3, hn3, f3⟩ : ∃ n, n = Nat.land n2 g ∧ bits .and .u32 (n2 : Int) (g : Int) = (n : Int) := ⟨_, rfl, u32_and' n2 g (by rw [hn2]; exact xor32 (by decide) be) bg⟩
      obtain ⟨n4, hn4, f4⟩ : ∃ n, n = ch e f g ∧ bits .xor .u32 (n1 : Int) (n3 : Int) = (n : Int) := ⟨_, rfl, by rw [ch, ← hn1, ← hn2, ← hn3]; exact u32_xor' n1 n3 (by rw [hn1]; exact and32 be) (by rw [hn3]; exact and32 (by rw [hn2]; exact xor32 (by decide) be))⟩
      obtain ⟨m1, hm1, g1⟩ : ∃ n, n = Nat.land a b ∧ bits .and .u32 (a : Int) (b : Int) = (n : Int) := ⟨_, rfl, u32_and' a b ba bb⟩
      obtain ⟨m2, hm2, g2⟩ : ∃ n, n = Nat.land a c ∧ bits .and .u32 (a : Int) (c : Int) = (n : Int) := ⟨_, rfl, u32_and' a c ba bc⟩
      obtain ⟨m3, hm3, g3⟩ : ∃ n, n = Nat.land b c ∧ bits .and .u32 (b : Int) (c : Int) = (n : Int) := ⟨_, rfl, u32_and' b c bb bc⟩
      obtain ⟨m4, hm4, g4⟩ : ∃ n, n = Nat.xor m1 m2 ∧ bits .xor .u32 (m1 : Int) (m2 : Int) = (n : Int) := ⟨_, rfl, u32_xor' m1 m2 (by rw [hm1]; exact and32 ba) (by rw [hm2]; exact and32 ba)⟩
      obtain ⟨m5, hm5, g5⟩ : ∃ n, n = maj a b c ∧ bits .xor .u32 (m4 : Int) (m3 : Int) = (n : Int) := ⟨_, rfl, by rw [maj, ← hm1, ← hm2, ← hm3, ← hm4]; exact u32_xor' m4 m3 (by rw [hm4, hm1, hm2]; exact xor32 (and32 ba) (and32 ba)) (by rw [hm3]; exact and32 bb)⟩
      obtain ⟨t, ht, k1⟩ : ∃ t, t = tOf e f g h k x ∧ ((h : Int) + X + n4 + k + x) % 4294967296 = (t : Int) := ⟨_, rfl, by rw [tOf, w32_int, ← hX, ← hn4]; simp⟩
      obtain ⟨u, hu, k2⟩ : ∃ u, u = uOf a b c ∧ ((Y : Int) + m5) % 4294967296 = (u : Int) := ⟨_, rfl, by rw [uOf, w32_int, ← hY, ← hm5]; simp⟩
      obtain ⟨a', ha', k3⟩ : ∃ n, n = w32 (t + u) ∧ ((t : Int) + u) % 4294967296 = (n : Int) := ⟨_, rfl, by rw [w32_int]; simp⟩
      obtain ⟨e', he', k4⟩ : ∃ n, n = w32 (d + t) ∧ ((d : Int) + t) % 4294967296 = (n : Int) := ⟨_, rfl, by rw [w32_int]; simp⟩
      have Hround : Hid (W8.round ⟨a, b, c, d, e, f, g, h⟩ k x = ⟨a', a, b, c, e', e, f, g⟩) := by
        show _ = _
        rw [W8.round]; simp only [ha', he', ht, hu]
      clear hX hY hn1 hn2 hn3 hn4 hm1 hm2 hm3 hm4 hm5 ht hu ha' he' and32 ba bb bc bd be bf bg bh
      have z0 := Ha.out.frozen 0
      have z1 := Ha.out.frozen 1
      have z2 := Ha.out.frozen 2
      have z3 := Ha.out.frozen 3
      have z4 := Ha.out.frozen 4
      have z5 := Ha.out.frozen 5
      have z6 := Ha.out.frozen 6
      have z7 := Ha.out.frozen 7
      have HT1 := Lib.hid hT1
      have HT0 := Lib.hid hT0
      clear hT1 hT0
      go_wp2
      go_region
      go_wp2
      go_quiet ((exact (HT1.out _).mono fun _ _ h => ⟨h.1, _, h.2.symm⟩))
      go_wp2
      go_quiet ((exact (HT0.out _).mono fun _ _ h => ⟨h.1, _, h.2.symm⟩))
      go_wp2
      have hcells : (s.rounds (spread l) (j + 1)).cells = [.int .u32 a', .int .u32 a, .int .u32 b, .int .u32 c, .int .u32 e', .int .u32 e, .int .u32 f, .int .u32 g] := by
        rw [W8.rounds, ← Hst.out, ← Hke.out, ← Hxe.out, Hround.out]; rfl
      rw [← Hst.out] at *
      refine ⟨⟨j + 1, by omega, by go_num, ?_, ?_, ?_, ?_⟩, by simp [intOf]; omega⟩
      · rw [hcells]
        exact (Ha.out.drewN _).setAll [.int .u32 a', .int .u32 a, .int .u32 b, .int .u32 c, .int .u32 e', .int .u32 e, .int .u32 f, .int .u32 g] rfl
      · exact (H0.out.drewN _).move (setCells_heap _ (w.heap.size + 1 + 1) [.int .u32 a', .int .u32 a, .int .u32 b, .int .u32 c, .int .u32 e', .int .u32 e, .int .u32 f, .int .u32 g] 0 _ (by omega))
      · exact (H4.out.drewN _).move (setCells_heap _ (w.heap.size + 1 + 1) [.int .u32 a', .int .u32 a, .int .u32 b, .int .u32 c, .int .u32 e', .int .u32 e, .int .u32 f, .int .u32 g] 0 _ (by omega))
      · exact (Hp.out.drewN _).setCells (w.heap.size + 1 + 1) 0 [.int .u32 a', .int .u32 a, .int .u32 b, .int .u32 c, .int .u32 e', .int .u32 e, .int .u32 f, .int .u32 g] (fun h => absurd h (by omega))
    · obtain rfl : j = 64 := by omega
      obtain ⟨st, hst⟩ : ∃ st, st = s.rounds (spread l) 64 := ⟨_, rfl⟩
      rw [← hst] at Ha
      have Hst := Lib.hid hst
      clear hst
      go_wp2
      go_loopw [83] (fun i wr2 => ∃ j : Nat, j ≤ 8 ∧ i = .int .i64 j ∧ Arr wr2 (w.heap.size + 1 + 1) 413 st.cells ∧ Arr wr2 w.heap.size 413 (u32s ((s.add st).list.take j ++ s.list.drop j)) ∧ Arr wr2 (w.heap.size + 1) 413 W8.zero.cells ∧ Pu w wr2) (fun i _ => 8 - (intOf i).toNat)
      case atStart => exact ⟨0, by omega, rfl, Ha.out, H0.out, H4.out, Hp.out⟩
      case round =>
        obtain ⟨j, hj, rfl, ha, h0, h4, hp⟩ := hrel
        clear Ha H0 Hp H4
        have H4 := Lib.hid h4
        clear h4
        have Ha := Lib.hid ha
        have H0 := Lib.hid h0
        have Hp := Lib.hid hp
        clear ha h0 hp
        by_cases h8 : j < 8
        · obtain ⟨p, q, hp, hq, hpq⟩ : ∃ p q, s.list[j]? = some p ∧ st.list[j]? = some q ∧ (s.add st).list[j]? = some (w32 (p + q)) := by
            match j, h8 with
            | 0, _ | 1, _ | 2, _ | 3, _ | 4, _ | 5, _ | 6, _ | 7, _ => exact ⟨_, _, rfl, rfl, rfl⟩
          have hc0 := H0.out.cell (j := j) (u32s_get (x := p) (by
            rw [List.getElem?_append_right (by simp; omega), List.length_take, Nat.min_eq_left (by show j ≤ 8; omega), Nat.sub_self, List.getElem?_drop]; exact hp))
          have hc1 := Ha.out.cell (j := j) (v := .int .u32 (q : Nat)) (u32s_get hq)
          have hf := H0.out.frozen j
          have Hpq := Lib.hid hpq
          clear hp hq hpq
          obtain ⟨r, hr, hr2⟩ : ∃ r, r = w32 (p + q) ∧ ((p : Int) + q) % 4294967296 = (r : Int) := ⟨_, rfl, by rw [w32_int]; simp⟩
          have Hr := Lib.hid hr
          clear hr
          go_wp2
          refine wp_region_tail 8 mixed ?hB ?hk ?_
          case hB => kernel_rfl
          case hk => exact of_decide_eq_true (by kernel_rfl)
          dsimp only [List.take]
          repeat (go_big_quiet_step (fail))
          refine wpQuiet_nil ?_
          intro _ hw'
          obtain ⟨nq, hw''⟩ := hw'
          subst hw''
          dsimp only [List.drop]
          go_wp2
          refine ⟨⟨j + 1, by omega, by go_num, (Ha.out.drewN _).move (heap_setCell_other _ _ _ _ (by show w.heap.size + 1 + 1 ≠ w.heap.size; omega)), ?_, (H4.out.drewN _).move (heap_setCell_other _ _ _ _ (by show w.heap.size + 1 ≠ w.heap.size; omega)), (Hp.out.drewN _).set _ _ (fun h => absurd h (by show ¬ w.heap.size < w.heap.size; omega))⟩, by simp [intOf]; omega⟩
          have h1 := (H0.out.drewN nq).set j (.int .u32 (r : Nat))
          have h2 : (u32s ((s.add st).list.take j ++ s.list.drop j)).set j (.int .u32 (r : Nat)) = u32s ((s.add st).list.take (j + 1) ++ s.list.drop (j + 1)) := by
            rw [List.take_add_one, Hpq.out, ← Hr.out]
            have hd : s.list.drop j = s.list[j]'h8 :: s.list.drop (j + 1) := List.drop_eq_getElem_cons h8
            rw [hd, u32s, u32s, List.map_append, List.set_append_right _ _ (by simp; show min j 8 ≤ j; omega)]
            have hle : (List.map (fun x : Nat => Value.int .u32 (x : Int)) ((s.add st).list.take j)).length = j := by rw [List.length_map, List.length_take]; show min j 8 = j; omega
            rw [hle, Nat.sub_self]
            simp
          rw [h2] at h1
          exact h1
        · obtain rfl : j = 8 := by omega
          have hl8 : (s.add st).list.take 8 ++ s.list.drop 8 = (s.add st).list := rfl
          have hmx2 : s.add st = mx := by rw [Hmx.out, W8.mix, ← Hst.out]
          rw [hl8, hmx2] at H0
          clear hmx2 hl8 Hmx
          have c0 := H0.out.cell (j := 0) rfl
          have c1 := H0.out.cell (j := 1) rfl
          have c2 := H0.out.cell (j := 2) rfl
          have c3 := H0.out.cell (j := 3) rfl
          have c4 := H0.out.cell (j := 4) rfl
          have c5 := H0.out.cell (j := 5) rfl
          have c6 := H0.out.cell (j := 6) rfl
          have c7 := H0.out.cell (j := 7) rfl
          have d0 := H4.out.cell (j := 0) rfl
          have d1 := H4.out.cell (j := 1) rfl
          have d2 := H4.out.cell (j := 2) rfl
          have d3 := H4.out.cell (j := 3) rfl
          have d4 := H4.out.cell (j := 4) rfl
          have d5 := H4.out.cell (j := 5) rfl
          have d6 := H4.out.cell (j := 6) rfl
          have d7 := H4.out.cell (j := 7) rfl
          have z0 := H4.out.frozen 0
          have z1 := H4.out.frozen 1
          have z2 := H4.out.frozen 2
          have z3 := H4.out.frozen 3
          have z4 := H4.out.frozen 4
          have z5 := H4.out.frozen 5
          have z6 := H4.out.frozen 6
          have z7 := H4.out.frozen 7
          go_wp2
          refine bodyPost_ret (results_cell_row rfl _ _ (w.heap.size + 1) _ _ _ _ rfl (H4.out.setAll mx.cells rfl) Tryz.underlying413 rfl info8) rfl ⟨rfl, ?_⟩
          exact Hp.out.setCells (w.heap.size + 1) 0 mx.cells (fun h => absurd h (by omega))
end Go.Proofs.YtaendhbiehknlaaGreatDoor

namespace Go.Proofs.YtaendhbiehknlaaGreatDoor
open Go.RowKit Go.Proofs

def zerosOf (n : Nat) : Nat := (119 - n % 64) % 64
def pad (l : Bytes) : Bytes := l ++ 128 :: (List.replicate (zerosOf l.length) 0 ++ number (8 * l.length) 8)
theorem pad_eq (l : Bytes) (z : Nat) (hz : zerosOf l.length = z) : pad l = l ++ 128 :: (List.replicate z 0 ++ number (8 * l.length) 8) := by rw [pad, hz]
theorem pad_length (l : Bytes) : (pad l).length = l.length + 1 + zerosOf l.length + 8 := by simp [pad, number_length]; omega
theorem pad_mod (l : Bytes) : (pad l).length % 64 = 0 := by rw [pad_length, zerosOf]; omega
def sliceLen : Value → Nat
  | .slice _ n _ => n
  | _ => 0
theorem rds_new (w : World) (cs : List Value) (t : TypeId) (n size : Nat) (h : cs.length = n * size) : Rds (w.alloc (.cells cs.toArray t)) size (some ⟨w.heap.size, 0, none⟩) n cs :=
  ⟨h, fun _ => ⟨_, rfl, fun j u hu => by
    rw [Addr.add_lit, Nat.zero_add, cell_of_row _ _ j _ _ _ (heap_alloc_new w _)]
    simpa using hu⟩⟩
set_option maxRecDepth 100000 in
set_option maxHeartbeats 1000000 in
theorem shaPadded (w0 : World) (v : Value) (l : Bytes) (w : World) (hv : w.ownsRow w0.heap.size 5 1 v l.length (u8s l)) (hp : Pu w0 w) (hl : l.length ≤ 8796093022208) :
    Calls Tryz.prog 264 #[v] w fun e w' => ∃ v', e = .returned v' ∧ w'.ownsRow w0.heap.size 5 1 v' (pad l).length (u8s (pad l)) ∧ Pu w0 w' := by
  obtain ⟨A, c, rfl⟩ := own_shape hv
  have Ho := Lib.hid hv
  have Hp := Lib.hid hp
  clear hv hp
  go_enter Tryz.func264, Tryz.ntmps264
  go_wp2_with (at_builtin; refine wpList_append_any _ rfl (.tmp 7) (.tmp 8) 23 rfl w0.heap.size 5 (.int .u8 0) 1 1 Tryz.underlying23 infoU8 rfl (by decide) _ l.length (u8s l) rfl (Ho.out.alloc _) _ 1 1 (u8s [128]) rfl (rds_new w (u8s [128]) _ 1 1 rfl) (u8s_one _) (by omega) (by have := Hp.out.size; simp; omega) ?_; intro v1 w1 hown hgrow hat)
  have hl1 : Hid (u8s l ++ u8s [128] = u8s (l ++ 128 :: List.replicate 0 0)) := by show _ = _; simp [u8s]
  rw [hl1.out] at hown
  have Ho1 := Lib.hid hown
  have Hp1 := Lib.hid ((Hp.out.alloc _).grown hgrow (fun k hk e => by have := (own_lt Ho.out k e).1; omega))
  clear hown hgrow hat hl1
  obtain ⟨z, hz⟩ : ∃ z, z = zerosOf l.length := ⟨_, rfl⟩
  have hz63 : z ≤ 63 := by rw [hz, zerosOf]; omega
  have hzm : (l.length + 1 + z) % 64 = 56 := by rw [hz, zerosOf]; omega
  have hzl : ∀ j, j < z → (l.length + 1 + j) % 64 ≠ 56 := by rw [hz, zerosOf]; intro j hj; omega
  have Hz := Lib.hid hz
  have Hzl := Lib.hid hzl
  have Hzm := Lib.hid hzm
  clear hz hzl hzm
  go_loopw [0] (fun x wr => ∃ j : Nat, j ≤ z ∧ wr.ownsRow w0.heap.size 5 1 x (l.length + 1 + j) (u8s (l ++ 128 :: List.replicate j 0)) ∧ Pu w0 wr) (fun x _ => l.length + 100 - sliceLen x)
  case atStart => exact ⟨0, Nat.zero_le _, Ho1.out, Hp1.out⟩
  case round =>
    obtain ⟨j, hj, ho, hp⟩ := hrel
    obtain ⟨A1, c1, rfl⟩ := own_shape ho
    clear Ho Hp Ho1 Hp1
    have Ho := Lib.hid ho
    have Hp := Lib.hid hp
    clear ho hp
    by_cases hjz : j < z
    · have hm := Hzl.out j hjz
      go_wp2_with (at_builtin; refine wpList_append_any _ rfl (.tmp 14) (.tmp 15) 23 rfl w0.heap.size 5 (.int .u8 0) 1 1 Tryz.underlying23 infoU8 rfl (by decide) _ (l.length + 1 + j) (u8s (l ++ 128 :: List.replicate j 0)) rfl (Ho.out.alloc _) _ 1 1 (u8s [0]) rfl (rds_new wr (u8s [0]) _ 1 1 rfl) (u8s_one _) (by omega) (by have := Hp.out.size; simp; omega) ?_; intro v1 w1 hown hgrow hat)
      obtain ⟨A2, c2, rfl⟩ := own_shape hown
      refine ⟨⟨j + 1, by omega, ?_, (Hp.out.alloc _).grown hgrow (fun k hk e => by have := (own_lt Ho.out k e).1; omega)⟩, by simp [sliceLen]; omega⟩
      have e : u8s (l ++ 128 :: List.replicate j 0) ++ u8s [0] = u8s (l ++ 128 :: List.replicate (j + 1) 0) := by
        rw [← u8s_append, List.append_assoc, List.cons_append, List.replicate_succ']
      rw [e] at hown
      exact hown
    · obtain rfl : j = z := by omega
      have hm := Hzm.out
      have hw8 : IntKind.i64.wrap (8 * ((l.length : Nat) : Int)) = ((8 * l.length : Nat) : Int) := by rw [IntWalk.i64_in _ (by omega)]; omega
      have hmI : ((l.length : Nat) : Int) + 1 + (j : Int) = 64 * (((l.length + 1 + j) / 64 : Nat) : Int) + 56 := by omega
      have hmJ : (((l.length : Nat) : Int) + 1 + (j : Int)) % 64 = 56 := by omega
      clear hmI hm
      go_wp2
      clear hmJ
      go_loopw [0, 4] (fun x i wr => ∃ (k : Nat) (m : Bytes), k ≤ 8 ∧ i = .int .i64 ((k : Int) - 1) ∧ m.length + k = 8 ∧ m ++ number (8 * l.length) k = number (8 * l.length) 8 ∧ wr.ownsRow w0.heap.size 5 1 x (l.length + 1 + j + m.length) (u8s (l ++ 128 :: (List.replicate j 0 ++ m))) ∧ Pu w0 wr) (fun _ i _ => (intOf i + 1).toNat)
      case atStart => exact ⟨8, [], Nat.le_refl _, rfl, rfl, rfl, by simpa using Ho.out, Hp.out⟩
      case round =>
        obtain ⟨k, m, hk, rfl, hmk, hn, ho, hp⟩ := hrel
        obtain ⟨A1, c1, rfl⟩ := own_shape ho
        clear Ho Hp
        have Ho := Lib.hid ho
        have Hp := Lib.hid hp
        have Hn := Lib.hid hn
        clear ho hp hn
        by_cases hk1 : 1 ≤ k
        · have hw : IntKind.i64.wrap (8 * ((k : Int) - 1)) = 8 * ((k : Int) - 1) := IntWalk.i64_in _ (by omega)
          have hb0 : 0 ≤ 8 * ((k : Int) - 1) := by omega
          have hb1 : 8 * ((k : Int) - 1) ≤ 64 := by omega
          go_wp2_with (at_builtin; refine wpList_append_any _ rfl (.tmp 21) (.tmp 28) 23 rfl w0.heap.size 5 (.int .u8 0) 1 1 Tryz.underlying23 infoU8 rfl (by decide) _ _ _ rfl (Ho.out.alloc _) _ 1 1 [_] rfl (rds_new wr [_] _ 1 1 rfl) (by simp [Value.oneCell']) (by omega) (by have := Hp.out.size; simp; omega) ?_; intro v1 w1 hown hgrow hat)
          obtain ⟨q, rfl⟩ : ∃ q, k = q + 1 := ⟨k - 1, by omega⟩
          refine ⟨⟨q, m ++ [UInt8.ofNat (8 * l.length / 2 ^ (8 * q))], by omega, by congr 1; omega, by simp; omega, ?_, ?_, (Hp.out.alloc _).grown hgrow (fun k hk e => by have := (own_lt Ho.out k e).1; omega)⟩, by simp [intOf]⟩
          · rw [← Hn.out]; simp [number]
          · have e : Value.int .u8 ((8 * ((l.length : Nat) : Int)) / 2 ^ (8 * (q + 1 - 1)) % 256) = u8v (UInt8.ofNat (8 * l.length / 2 ^ (8 * q))) := by
              rw [Nat.add_sub_cancel]
              have := u8v_wrap (8 * l.length / 2 ^ (8 * q))
              rw [IntKind.wrap_u8] at this
              simpa using this
            rw [e] at hown
            have e2 : u8s (l ++ 128 :: (List.replicate j 0 ++ m)) ++ [u8v (UInt8.ofNat (8 * l.length / 2 ^ (8 * q)))] = u8s (l ++ 128 :: (List.replicate j 0 ++ (m ++ [UInt8.ofNat (8 * l.length / 2 ^ (8 * q))]))) := by simp [u8s]
            rw [e2] at hown
            rw [List.length_append]
            exact hown
        · go_wp2
          obtain rfl : k = 0 := by omega
          have hm8 : m = number (8 * l.length) 8 := by rw [← Hn.out]; simp [number]
          have hml : m.length = 8 := by omega
          have e : (pad l).length = l.length + 1 + j + m.length := by rw [pad_length, ← Hz.out, hml]
          have h2 : wr.ownsRow w0.heap.size 5 1 (.slice A1 (l.length + 1 + j + m.length) c1) (pad l).length (u8s (pad l)) := by
            rw [e, pad_eq l j Hz.out.symm, ← hm8]
            exact Ho.out
          clear e hml hm8
          go_ret
          exact ⟨_, rfl, h2, Hp.out⟩
end Go.Proofs.YtaendhbiehknlaaGreatDoor
