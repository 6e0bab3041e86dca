/- What is proved here, of the given program: The row's readings: the listed variables. The row: its arguments opened and shut; the statement's row proved. -/
import Derived.Test.YtaendhbiehknlaaGreatDoorU50
import Derived.Test.YtaendhbiehknlaaGreatDoorRows
import Derived.ProofKit
import Derived.LaidMore
import Derived.LaidHandle
import Derived.LaidLaws
import Derived.OpenShut
import Derived.Laws.IdiomArrays
import Derived.Lib.SmallJoins
import Derived.Stop.Joined
import Derived.Below
set_option linter.unusedVariables false
set_option linter.unusedSimpArgs false
set_option linter.constructorNameAsVariable false
namespace Go.Proofs.YtaendhbiehknlaaGreatDoor
open Go.ChangeShapes Go.WideShapes Go.ChangeAt Go.RowKit Go.Joins

theorem own : ownKnob Tryz.prog.godebug = none := by kernel_rfl
theorem ints_of_agg {H : Type} {enc : TypeId × Value → H} {P : Program} {w : World} {base : Nat} {sp : Nat → Bool} {held : Bool} {fuel : Nat} {t e : TypeId} {n : Nat} {k : IntKind} {cs : List Value} {p : List MemPlace} (zs : List Nat) (ht : P.underlying t = some (.array n e)) (he : P.underlying e = some (.int k)) (hc : P.cellsOf e = 1) (hn : zs.length = n) (h : DataW.trod enc P w base sp held fuel t cs = some (.agg (zs.map fun z : Nat => .lit (.int k (z : Int))), p)) : ∀ (j : Nat) (v : Value), (zs.map fun z : Nat => Value.int k (z : Int))[j]? = some v → cs[j]? = some v := by
  intro j v hj
  obtain ⟨xs, m, -, hx, -, hxn, hel⟩ := DataW.trod_array ht h
  simp only [Prod.mk.injEq, DataW.agg.injEq] at hx
  have hjl : j < zs.length := by have := (List.getElem?_eq_some_iff.1 hj).1; simpa using this
  have h1 := hel j (by omega)
  rw [hc, Nat.mul_one] at h1
  have hxj : xs[j]? = some (xs[j]'(by omega)) := List.getElem?_eq_getElem (by omega)
  rw [hxj] at h1
  obtain ⟨r, e1, e2, -⟩ := DataW.trod_int he h1
  have e3 := congrArg (fun l => l[j]?) hx.1
  simp only [List.getElem?_map, hxj, Option.map_some, List.getElem?_eq_getElem hjl] at e3
  rw [e2] at e3
  simp only [Option.some.injEq, DataW.lit.injEq, Lit.int.injEq, true_and] at e3
  simp only [List.getElem?_map, List.getElem?_eq_getElem hjl, Option.map_some, Option.some.injEq] at hj
  rw [← hj, e3]
  have e4 := congrArg (fun l => l[0]?) e1
  simpa [List.getElem?_take, List.getElem?_drop] using e4
theorem gRounds : Tryz.prog.globalNamed "engrosser/sha.rounds" = some 2 := by kernel_rfl
theorem gStart : Tryz.prog.globalNamed "engrosser/sha.start" = some 1 := by kernel_rfl
theorem gErr : Tryz.prog.globalNamed "errors.errorType" = some 0 := by kernel_rfl
theorem tRounds : (Tryz.prog.globals[2]?).map (·.type) = some 447 := by kernel_rfl
theorem tStart : (Tryz.prog.globals[1]?).map (·.type) = some 413 := by kernel_rfl
theorem cU32 : Tryz.prog.cellsOf 360 = 1 := by kernel_rfl
theorem dRounds : (Rows.laid_engrosser_sha_rounds : DataW Unit) = .agg (Ks.map fun z : Nat => .lit (.int .u32 (z : Int))) := by kernel_rfl
theorem dStart : (Rows.laid_engrosser_sha_start : DataW Unit) = .agg (H0s.map fun z : Nat => .lit (.int .u32 (z : Int))) := by kernel_rfl
theorem rtNum : (Tryz.prog.cutTypes.find? (·.1 == "internal/reflectlite.rtype")).map (·.2) = some 345 := by kernel_rfl
theorem oneRow : ((List.range Tryz.prog.types.size).filter fun t => Tryz.prog.rowNamed t [101, 114, 114, 111, 114]) = [35] := by kernel_rfl
theorem range_of {W : World} {n : String} {g : Nat} {cs : Array Value} {k : Nat} {f : Nat} {t : TypeId} {p : List MemPlace} {zs : List Nat} (hg : Tryz.prog.globalNamed n = some g) (hv : W.var? Tryz.prog n = some cs) (ht : Tryz.prog.underlying t = some (.array k 360)) (hn : zs.length = k) (hd : DataW.trod (fun _ => ()) Tryz.prog W 0 (fun _ => true) false f t cs.toList = some (.agg (zs.map fun z : Nat => .lit (.int .u32 (z : Int))), p)) : W.rangeAt g 0 (u32s zs) := by
  intro j v hj
  have h1 := ints_of_agg zs ht Tryz.underlying360 cU32 hn hd j v hj
  rw [Nat.zero_add, World.var?_cell hg hv j]
  simpa using h1
theorem laid_facts {W : World} (h : laidMetH Tryz.prog Rows.archiveFormatsRow.laid W) : Globs W ∧ ErrG W := by
  have h' : laidMet Tryz.prog [("math/bits.deBruijn32tab", Rows.laid_math_bits_deBruijn32tab), ("math/bits.deBruijn64tab", Rows.laid_math_bits_deBruijn64tab), ("engrosser/sha.rounds", Rows.laid_engrosser_sha_rounds), ("engrosser/sha.start", Rows.laid_engrosser_sha_start)] W ∧ handlesMet Tryz.prog [("errors.errorType", Rows.laid_errors_errorType)] W := h
  obtain ⟨⟨ps, ⟨g0, t0, cs0, f0, p0, q0, hg0, ht0, hv0, hd0, ⟨g1, t1, cs1, f1, p1, q1, hg1, ht1, hv1, hd1, ⟨g2, t2, cs2, f2, p2, q2, hg2, ht2, hv2, hd2, ⟨g3, t3, cs3, f3, p3, q3, hg3, ht3, hv3, hd3, _, _⟩, _⟩, _⟩, _⟩, _, _⟩, hh⟩ := h'
  obtain rfl := Option.some.inj (gRounds.symm.trans hg2)
  obtain rfl := Option.some.inj (gStart.symm.trans hg3)
  obtain rfl := Option.some.inj (tRounds.symm.trans ht2)
  obtain rfl := Option.some.inj (tStart.symm.trans ht3)
  rw [dRounds] at hd2
  rw [dStart] at hd3
  refine ⟨⟨range_of gStart hv3 Tryz.underlying413 rfl hd3, range_of gRounds hv2 Tryz.underlying447 rfl hd2⟩, ?_⟩
  obtain ⟨name, u, ty, e1, e2, e3, e4, e5⟩ := hh _ (List.mem_singleton.2 rfl)
  have en : name = [101, 114, 114, 111, 114] := (Option.some.inj e1).symm
  subst en
  obtain rfl := Option.some.inj (rtNum.symm.trans e2)
  have hm : ty ∈ (List.range Tryz.prog.types.size).filter fun t => Tryz.prog.rowNamed t [101, 114, 114, 111, 114] := List.mem_filter.2 ⟨List.mem_range.2 e3, e4⟩
  rw [oneRow] at hm
  obtain rfl := List.mem_singleton.1 hm
  have e6 := World.var?_cell gErr e5 0
  have hh : typeHandle Tryz.prog 35 = .pointer (some ⟨5, 35, none⟩) := by kernel_rfl
  unfold ErrG
  rw [e6, hh]
  rfl
end Go.Proofs.YtaendhbiehknlaaGreatDoor

namespace Go.Proofs.YtaendhbiehknlaaGreatDoor
open Go.ChangeShapes Go.WideShapes Go.ChangeAt Go.RowKit Go.Joins

section
variable {H : Type} {enc : TypeId × Value → H} {P : Program}
theorem post_of_below {f : Func} {s : ChangeSpec} {apart fresh handsOn again : Bool} {W W' : World} {args : Array Value} {v : Value} {ds gs : List (DataW H)} {before pa pv : List MemPlace}
    (hW : DataW.Whole enc P f.params.toList s.vars apart W args.toList ds gs before)
    (hres : ∀ (b : Nat) (sp : Nat → Bool) (hd : Bool), DataW.TrodAll enc P W' b sp hd f.resultTypes.toList (v.resultList f.resultTypes.size) (s.fn H (ds ++ gs)).results [])
    (hargs : ∀ sp : Nat → Bool, (∀ p ∈ before, sp p.block = true) → DataW.TrodAll enc P W' 0 sp true f.params.toList args.toList (s.fn H (ds ++ gs)).args pa)
    (hvars : ∀ sp : Nat → Bool, (∀ p ∈ before, sp p.block = true) → DataW.TrodVars enc P W' sp s.vars (s.fn H (ds ++ gs)).vars pv)
    (hps : before = pa ++ pv) (hb : Below W.heap.size W W')
    (hok : ∀ (j : Nat) (t : TypeId) (r : Value), f.resultTypes[j]? = some t → (v.resultList f.resultTypes.size)[j]? = some r → Value.okWide P W' .any 0 t r) :
    s.post enc P f apart fresh handsOn again W args v W' := by
  have hlt : ∀ p ∈ before, p.block < W.heap.size := fun p hp => hW.lt p hp
  have hold : ∀ p ∈ before, (fun b => decide (b < W.heap.size)) p.block = true := fun p hp => by simpa using hlt p hp
  refine ⟨ds, gs, before, [], pa, pv, hW, hres _ _ _, hargs _ hold, hvars _ hold, World.keptBut_mono (fun p hp => ⟨hp, ?_⟩) (hb.frame (· ∈ before)), fun _ => ?_⟩
  · rw [hps, List.mem_append] at hp
    exact Or.inr hp
  · obtain ⟨_, _, _, _, _, hz, hn⟩ := hW
    refine ⟨hok, _, _, ([] ++ pa) ++ pv, ⟨[] ++ pa, pv, trodAll_append (hargs _ (fun _ _ => rfl)) (hres _ _ _), hvars _ (fun _ _ => rfl), rfl, ?_, ?_⟩, ?_⟩
    · intro b off hp
      have hin : MemPlace.cell b off ∈ before := by rw [hps]; simpa using hp
      rw [hb.frozen (hlt _ hin)]
      exact hz b off hin
    · intro ha
      have := hn ha
      rw [hps] at this
      simpa using this
    · intro p hp _
      rw [hps]
      simpa using hp
end
theorem cArr : Tryz.prog.cellsOf 22 = 3 := by kernel_rfl
theorem cInt : Tryz.prog.cellsOf 3 = 1 := by kernel_rfl
theorem cU8 : Tryz.prog.cellsOf 5 = 1 := by kernel_rfl
theorem cPol : Tryz.prog.cellsOf 25 = 3 := by kernel_rfl
section
variable {H : Type} {enc : TypeId × Value → H} {w : World} {base : Nat} {sp : Nat → Bool} {held : Bool}
set_option maxRecDepth 100000 in
theorem arr_open {r : Reach} {b0 : Nat} {v : Value} {d : DataW H} {p : List MemPlace} (hv : Value.okWide Tryz.prog w r b0 22 v) (h : DataW.Trod enc Tryz.prog w base sp held 22 v d p) :
    ∃ a b c : Int, v = .agg #[.int .i64 a, .int .i64 b, .int .i64 c] ∧ d = .agg [.lit (.int .i64 a), .lit (.int .i64 b), .lit (.int .i64 c)] ∧ p = [] ∧ (Lit.int .i64 a).wf = true ∧ (Lit.int .i64 b).wf = true ∧ (Lit.int .i64 c).wf = true := by
  simp only [Value.okWide, Tryz.underlying22] at hv
  obtain ⟨cs, rfl, hsz, -⟩ := hv
  rw [cArr] at hsz
  obtain ⟨c0, c1, c2, rfl⟩ := array3 hsz
  obtain ⟨fuel, hf⟩ := h
  obtain ⟨y0, y1, y2, n, hx, h0, h1, h2⟩ := trod_array3 Tryz.underlying22 cInt hf
  obtain ⟨k0, e0, rfl, w0⟩ := DataW.trod_int Tryz.underlying3 h0
  obtain ⟨k1, e1, rfl, w1⟩ := DataW.trod_int Tryz.underlying3 h1
  obtain ⟨k2, e2, rfl, w2⟩ := DataW.trod_int Tryz.underlying3 h2
  simp at e0 e1 e2
  subst e0 e1 e2
  simp only [Prod.mk.injEq] at hx
  exact ⟨k0, k1, k2, rfl, hx.1, by simpa using hx.2, w0, w1, w2⟩
set_option maxRecDepth 100000 in
theorem arr_shut {a b c : Int} (w0 : (Lit.int .i64 a).wf = true) (w1 : (Lit.int .i64 b).wf = true) (w2 : (Lit.int .i64 c).wf = true) : DataW.Trod enc Tryz.prog w base sp held 22 (.agg #[.int .i64 a, .int .i64 b, .int .i64 c]) (.agg [.lit (.int .i64 a), .lit (.int .i64 b), .lit (.int .i64 c)]) [] :=
  ⟨2, by simp [DataW.trod, Value.cells, Tryz.underlying22, Tryz.underlying3, cArr, cInt, w0, w1, w2, show List.range 3 = [0, 1, 2] from rfl]⟩
theorem again {n a b c per keep : Int} {v : Value} {y : DataW H × List MemPlace} (wn : (Lit.int .u8 n).wf = true) (wa : (Lit.int .i64 a).wf = true) (wb : (Lit.int .i64 b).wf = true) (wc : (Lit.int .i64 c).wf = true) (wp : (Lit.int .i64 per).wf = true) (wk : (Lit.int .i64 keep).wf = true) (hy : ∃ m, DataW.trod enc Tryz.prog w base sp held m 23 [v] = some y) :
    DataW.TrodAll enc Tryz.prog w base sp held [5, 22, 25] [.int .u8 n, .agg #[.int .i64 a, .int .i64 b, .int .i64 c], .agg #[.int .i64 per, .int .i64 keep, v]] [.lit (.int .u8 n), .agg [.lit (.int .i64 a), .lit (.int .i64 b), .lit (.int .i64 c)], .agg [.lit (.int .i64 per), .lit (.int .i64 keep), y.1]] y.2 := by
  have h := trodAll_cons_mk (enc := enc) (w := w) (base := base) (spare := sp) (held := held) (shut_int Tryz.underlying5 wn) (trodAll_cons_mk (arr_shut wa wb wc) (trodAll_cons_mk (shut_agg3 (v0 := .int .i64 per) (v1 := .int .i64 keep) (v2 := v) (y0 := (.lit (.int .i64 per), [])) (y1 := (.lit (.int .i64 keep), [])) (y2 := y) Tryz.underlying25 (by kernel_rfl) cPol ⟨1, trod_int_mk 0 Tryz.underlying3 wp⟩ ⟨1, trod_int_mk 0 Tryz.underlying3 wk⟩ hy) trodAll_mk0))
  simpa using h
/-- The name's octets. -/
def nameOf (zs : List Int) (len : Nat) : Bytes := (zs.take len).map fun n => UInt8.ofNat n.toNat
theorem bs_ints {a : Addr} {len cap : Nat} {zs : List Int} (hl : len ≤ cap) (hm : cap ≤ maxLen) (hz : zs.length = cap) (hcell : ∀ i, i < zs.length → w.cell? (a.add i) = some (.int .u8 (zs.getD i 0))) (hw : ∀ n ∈ zs, (Lit.int .u8 n).wf = true) : Bs Tr w (.slice (some a) len cap) (nameOf zs len) ∧ (nameOf zs len).length = len := by
  have hlen : (nameOf zs len).length = len := by simp [nameOf]; omega
  refine ⟨⟨some a, cap, by rw [hlen], by omega, hm, fun hx => ?_⟩, hlen⟩
  have h0 : 0 < len := by
    rcases Nat.eq_zero_or_pos len with h | h
    · exact absurd (List.eq_nil_of_length_eq_zero (by omega)) hx
    · exact h
  obtain ⟨b, off, spot⟩ := a
  have hspot : spot = none := by simpa [Addr.add] using World.cell?_spot (hcell 0 (by omega))
  subst hspot
  refine ⟨b, off, rfl, trivial, ?_, fun j x hj => ⟨[u8v x], rfl, fun i u hu => ?_⟩⟩
  · have := World.block_lt_of_cell? w _ (hcell 0 (by omega))
    exact this
  · have hi : i = 0 := by
      have := (List.getElem?_eq_some_iff.1 hu).1
      simp at this
      omega
    subst hi
    obtain rfl : u8v x = u := by simpa using hu
    have hjl : j < len := by
      have := (List.getElem?_eq_some_iff.1 hj).1
      omega
    have hc := hcell j (by omega)
    rw [Addr.add_lit] at hc
    have hg : zs.getD j 0 = zs[j]'(by omega) := by simp [List.getD, List.getElem?_eq_getElem (show j < zs.length by omega)]
    have hwf := hw _ (List.getElem_mem (show j < zs.length by omega))
    rw [hg] at hc
    have hx2 : x = UInt8.ofNat (zs[j]'(by omega)).toNat := by
      simp only [nameOf, List.getElem?_map, List.getElem?_take, if_pos hjl, List.getElem?_eq_getElem (show j < zs.length by omega), Option.map_some, Option.some.injEq] at hj
      exact hj.symm
    have hv : u8v x = .int .u8 (zs[j]'(by omega)) := by
      simp [Lit.wf, IntKind.min, IntKind.max, IntKind.signed, IntKind.bits] at hwf
      rw [hx2]
      simp only [u8v]
      congr 1
      simp
      omega
    rw [hv]
    simpa [Kd.u8, Kd.scalar] using hc
end
set_option maxRecDepth 100000 in
set_option maxHeartbeats 1000000 in
theorem lifted (os : Os) (started : os.Started) (H : Type) (enc : TypeId × Value → H) :
    ReturnsInHanded {} Tryz.checked os 3 .any (fun w args => (Rows.archiveFormatsSpec.pre enc Tryz.prog Tryz.f3 [] false w args ∧ laidMetH Tryz.prog Rows.archiveFormatsRow.laid w) ∧ sizedMet enc Tryz.prog Tryz.f3 (OpenSpec.ofChange Rows.archiveFormatsSpec) false w args)
      (Rows.archiveFormatsSpec.post enc Tryz.prog Tryz.f3 false true false false) := by
  refine returnsInHanded_of_change_and (C := Tryz.checked) (X := fun w _ => laidMetH Tryz.prog Rows.archiveFormatsRow.laid w) (fun _ _ _ hh h => h.of_heap hh) own started (by kernel_rfl) Tryz.func3
    (ChangeSpec.witness_shaped (enc := enc) (C := Tryz.checked) (os := os) (X := fun w _ => laidMetH Tryz.prog Rows.archiveFormatsRow.laid w) false (World.doorLaid Tryz.prog 4000 os) #[.int .u8 0, .agg #[.int .i64 0, .int .i64 0, .int .i64 0], .agg #[.int .i64 0, .int .i64 0, .slice none 0 0]] 8 rfl (World.shaped_of_RefB (by kernel_rfl) (by kernel_rfl)) (by kernel_rfl) (by kernel_rfl) (by kernel_rfl)
      (laidMetH_of_parts3 (fuel := 8) (laidMet_of_run' 8 (by kernel_rfl) (by kernel_rfl)) (by kernel_rfl) (by kernel_rfl))) ?_
  intro W base args ds gs before hval0 hW _ _ hL _
  have hval : ∀ (j : Nat) t v, Tryz.f3.params[j]? = some t → args[j]? = some v → Value.okWide Tryz.prog W .any base t v := hval0
  have hW' := hW
  obtain ⟨p, q, hA0, hV, rfl, hfz, hnd⟩ := hW
  have hA : DataW.TrodAll enc Tryz.prog W 0 (fun _ => true) true Tryz.f3.params.toList args.toList ds p := hA0
  rw [Tryz.params3] at hA hval
  obtain ⟨v0, vs0, d0, ds0, p0, q0, hargs, rfl, rfl, h0, r0⟩ := trodAll_cons hA
  obtain ⟨v1, vs1, d1, ds1, p1, q1, rfl, rfl, rfl, h1, r1⟩ := trodAll_cons r0
  obtain ⟨v2, vs2, d2, ds2, p2, q2, rfl, rfl, rfl, h2, r2⟩ := trodAll_cons r1
  obtain ⟨rfl, rfl, rfl⟩ := trodAll_nil r2
  obtain rfl : args = #[v0, v1, v2] := by cases args; simp_all
  obtain ⟨rfl, rfl⟩ := trodVars_none hV
  obtain ⟨hG, hE⟩ := laid_facts hL
  obtain ⟨n, rfl, rfl, rfl, wn⟩ := open_int Tryz.underlying5 (hval 0 5 v0 rfl rfl) h0
  obtain ⟨a, b, c, rfl, rfl, rfl, wa, wb, wc⟩ := arr_open (hval 1 22 v1 rfl rfl) h1
  obtain ⟨x0, x1, x2, y0, y1, y2, m, rfl, rfl, rfl, g0, g1, g2⟩ := open_agg3 Tryz.underlying25 (by kernel_rfl) cPol (hval 2 25 v2 rfl rfl) h2
  obtain ⟨per, e0, rfl, wper⟩ := DataW.trod_int Tryz.underlying3 g0
  obtain ⟨keep, e1, rfl, wkeep⟩ := DataW.trod_int Tryz.underlying3 g1
  simp at e0 e1
  subst e0 e1
  obtain ⟨n, rfl⟩ : ∃ k : Nat, n = k := ⟨n.toNat, by simp [Lit.wf, IntKind.min, IntKind.max, IntKind.signed, IntKind.bits] at wn; omega⟩
  have hn : n ≤ 255 := by simp [Lit.wf, IntKind.min, IntKind.max, IntKind.signed, IntKind.bits] at wn; omega
  clear hA0 hval0
  simp only [List.append_nil] at hW'
  rcases open_ints Tryz.underlying23 Tryz.underlying5 cU8 g2 with ⟨hcs, hx⟩ | ⟨ad, len, cap, zs, hcs, _, hl, hm, hz, hx, hcell, hwz⟩
  · simp at hcs
    subst hcs hx
    have hmain := lawMain (w := W) (n := n) (a := a) (b := b) (c := c) (per := per) (keep := keep) (A := none) (cp := 0) (name := []) hn (Sl.nil _ _ _) hG hE
    refine hmain.mono fun e W' ⟨he, hp⟩ => ?_
    subst he
    refine ⟨_, rfl, post_of_below (pa := []) (pv := []) hW' (fun _ _ _ => trodAll_mk1 (shut_bool Tryz.underlying4 _)) (fun sp _ => ?_) (fun _ _ => rfl) (by simp) hp.below (ok_one (by kernel_rfl) rfl (okWide_bool_mk Tryz.underlying4 _))⟩
    rw [Tryz.params3]
    exact again wn wa wb wc wper wkeep ⟨1, by simp [DataW.trod, Tryz.underlying23]⟩
  · simp at hcs
    subst hcs hx
    simp only [if_true] at hz
    obtain ⟨hbs, hnl⟩ := bs_ints hl hm hz hcell hwz
    have hbs2 : Bs Tr W (.slice (some ad) (nameOf zs len).length cap) (nameOf zs len) := by rw [hnl]; exact hbs
    have hmain := lawMain (w := W) (n := n) (a := a) (b := b) (c := c) (per := per) (keep := keep) (A := some ad) (cp := cap) (name := nameOf zs len) hn hbs2 hG hE
    rw [hnl] at hmain
    refine hmain.mono fun e W' ⟨he, hp⟩ => ?_
    subst he
    have hcell' : ∀ i, i < zs.length → W'.cell? (ad.add i) = some (.int .u8 (zs.getD i 0)) := fun i hi => by
      rw [← hcell i hi]
      exact World.cell?_of_block (hp.block _ (World.block_lt_of_cell? W _ (hcell i hi)) (fun h => h))
    refine ⟨_, rfl, post_of_below (pa := MemPlace.row ad zs.length) (pv := []) hW' (fun _ _ _ => trodAll_mk1 (shut_bool Tryz.underlying4 _)) (fun sp hsp => ?_) (fun _ _ => rfl) (by simp) hp.below (ok_one (by kernel_rfl) rfl (okWide_bool_mk Tryz.underlying4 _))⟩
    rw [Tryz.params3]
    refine again (y := (.slice (lits .u8 (zs.take len)) (lits .u8 (zs.drop len)), MemPlace.row ad zs.length)) wn wa wb wc wper wkeep ⟨2, ?_⟩
    by_cases hz0 : zs.length = 0
    · have hc0 : cap = 0 := by omega
      have hl0 : len = 0 := by omega
      subst hc0; subst hl0
      exact shut_ints 0 Tryz.underlying23 Tryz.underlying5 cU8 (Nat.zero_le _) (Nat.le_refl _) hm (by simp [hz0]) hcell' hwz
    · have hspb : sp ad.block = true := hsp (.cell ad.block ad.off) (by simp; exact MemPlace.mem_row.2 ⟨0, by omega, by simp⟩)
      exact shut_ints 0 Tryz.underlying23 Tryz.underlying5 cU8 (Nat.zero_le _) hl hm (by simp [hspb, hz]) hcell' hwz
end Go.Proofs.YtaendhbiehknlaaGreatDoor
