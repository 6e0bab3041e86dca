/- What is proved here, of the given program: errors.As, the target a Fault, whole; fault.faults, fault.Place; the number that a statement reads. -/
import Derived.Test.YtaendhbiehknlaaGreatDoorU22
import Derived.Test.YtaendhbiehknlaaGreatDoorU11
set_option linter.unusedVariables false
set_option linter.unusedSimpArgs false
set_option linter.constructorNameAsVariable false
namespace Go.Proofs.YtaendhbiehknlaaGreatDoor
open Go.RowKit Go.Proofs Go.Extern.Stop Go.Stop Go.Extern

set_option maxRecDepth 100000 in
set_option maxHeartbeats 1000000 in
theorem errorsAsF (tx : Nat) (ux : Value) (t : Nat) (old : Value) (w : World) (hG : ErrG w) (R : Ending → World → Prop) (ht : w.heap[t]? = some (.cells #[old] 159 (0, 0)))
    (hR : ∀ w2, Pu w w2 → w2.cell? ⟨w.heap.size, 0, none⟩ = some (.pointer (some ⟨t, 0, none⟩)) → Calls Tryz.prog 123 #[.iface tx ux, .iface 247 (.pointer (some ⟨t, 0, none⟩)), .agg #[.pointer (some ⟨5, 247, none⟩), .pointer (some ⟨w.heap.size, 0, none⟩), .int .u64 150], .iface 345 (Rt 159)] w2 fun en w' => ∃ c, en = .returned (.bool c) ∧ R en w') :
    Calls Tryz.prog 72 #[.iface tx ux, .iface 247 (.pointer (some ⟨t, 0, none⟩))] w fun en w' => R en w' := by
  have y120 := @run_callFunc_extern Tryz.prog 120 _ (fun args => ReflectliteValue.unpack (args.getD 0 (.tuple #[]))) Tryz.func120 (by kernel_rfl) (by kernel_rfl) (by kernel_rfl) (by kernel_rfl)
  have y121 := @run_callFunc_extern Tryz.prog 121 _ (ReflectliteValue.methodAny (ReflectliteValue.valueError "reflectlite.Value.Type" 0) (fun t _ _ _ => ReflectliteType.toType t)) Tryz.func121 (by kernel_rfl) (by kernel_rfl) (by kernel_rfl) (by kernel_rfl)
  have y122 := @run_callFunc_extern Tryz.prog 122 _ (ReflectliteValue.method (ReflectliteValue.valueError "reflectlite.Value.IsNil" 0) ReflectliteValue.isNil) Tryz.func122 (by kernel_rfl) (by kernel_rfl) (by kernel_rfl) (by kernel_rfl)
  have y429 := @run_callFunc_extern Tryz.prog 429 _ (ReflectliteType.abiMethod fun t => do pure (.int .u8 (← Rtype.kind t))) Tryz.func429 (by kernel_rfl) (by kernel_rfl) (by kernel_rfl) (by kernel_rfl)
  have y459 := @run_callFunc_extern Tryz.prog 459 _ (ReflectliteType.method ReflectliteType.elem) Tryz.func459 (by kernel_rfl) (by kernel_rfl) (by kernel_rfl) (by kernel_rfl)
  have y460 := @run_callFunc_extern Tryz.prog 460 _ (ReflectliteType.relation "Implements" ReflectliteType.implements_) Tryz.func460 (by kernel_rfl) (by kernel_rfl) (by kernel_rfl) (by kernel_rfl)
  have mK := rl.methodKind
  have mE := rl.methodElem
  have mI := rl.methodImplements
  have f1 := rf.valueOf
  have f2 := rf.type
  have f3 := rf.kindP
  have f4 := rf.kind
  have f5 := rf.elem
  have f6 := rf.implements
  have HR := Lib.hid hR
  have Ht := Lib.hid ht
  have htl := blk_lt ht
  have HG := Lib.hid hG
  have hgl := hG.lt
  have hg := hG
  unfold ErrG at hg
  have hg2 : ((w.alloc (.cells #[.pointer (some ⟨t, 0, none⟩)] 247)).alloc (.cells #[.pointer (some ⟨5, 247, none⟩), .pointer (some ⟨w.heap.size, 0, none⟩), .int .u64 150] 251)).cell? ⟨0, 0, none⟩ = some (.iface 345 (Rt 35)) := by
    rw [World.cell?_alloc_lt _ _ ⟨0, 0, none⟩ (by simp), World.cell?_alloc_lt _ _ ⟨0, 0, none⟩ hgl]; exact hg
  have n8 := rf.isNil ⟨w.heap.size, 0, none⟩ ⟨t, 0, none⟩ ((w.alloc (.cells #[.pointer (some ⟨t, 0, none⟩)] 247)).alloc (.cells #[.pointer (some ⟨5, 247, none⟩), .pointer (some ⟨w.heap.size, 0, none⟩), .int .u64 150] 251)) (by simp)
  clear hR ht hG hg
  go_enter Tryz.func72, Tryz.ntmps72
  go_wp2_with fail
  have hpu : Pu w ((w.alloc (.cells #[.pointer (some ⟨t, 0, none⟩)] 247)).alloc (.cells #[.pointer (some ⟨5, 247, none⟩), .pointer (some ⟨w.heap.size, 0, none⟩), .int .u64 150] 251)) := ((Fr.refl _ _).alloc _).alloc _
  refine (HR.out _ hpu (by simp)).mono ?_
  rintro en w3 ⟨c, rfl, hr⟩
  have Hr := Lib.hid hr
  clear hr hpu HR
  go_wp2
  exact Hr.out

theorem errorsAsHit (b : Nat) (t : Nat) (old : Value) (w : World) (hG : ErrG w) (ht : w.heap[t]? = some (.cells #[old] 159 (0, 0))) :
    Calls Tryz.prog 72 #[.iface 159 (.pointer (some ⟨b, 0, none⟩)), .iface 247 (.pointer (some ⟨t, 0, none⟩))] w fun en w' => en = .returned (.bool true) ∧ w'.cell? ⟨t, 0, none⟩ = some (.pointer (some ⟨b, 0, none⟩)) ∧ Fr (At t) w w' := by
  refine errorsAsF _ _ t old w hG (fun en w' => en = .returned (.bool true) ∧ w'.cell? ⟨t, 0, none⟩ = some (.pointer (some ⟨b, 0, none⟩)) ∧ Fr (At t) w w') ht (fun w2 hp hc => ?_)
  exact (asFaultHit ⟨b, 0, none⟩ t ⟨w.heap.size, 0, none⟩ old _ w2 hc ((hp.block t (blk_lt ht) (fun h => h)).trans ht)).mono fun en w' ⟨h1, h2, h3⟩ => ⟨true, h1, h1, h2, hp.any.trans h3 (fun _ _ h => h)⟩
theorem errorsAsMiss (n : Int) (t : Nat) (old : Value) (w : World) (hG : ErrG w) (ht : w.heap[t]? = some (.cells #[old] 159 (0, 0))) :
    Calls Tryz.prog 72 #[.iface 28 (.int .i64 n), .iface 247 (.pointer (some ⟨t, 0, none⟩))] w fun en w' => en = .returned (.bool false) ∧ Pu w w' := by
  refine errorsAsF _ _ t old w hG (fun en w' => en = .returned (.bool false) ∧ Pu w w') ht (fun w2 hp hc => ?_)
  exact (asFaultMiss n ⟨w.heap.size, 0, none⟩ _ w2).mono fun en w' ⟨h1, h2⟩ => ⟨false, h1, h1, hp.pu h2⟩
theorem infoPF : (Tryz.prog.info? 159).map (fun i => (i.zero, i.size, i.bytes)) = some (some (.pointer none), 1, 8) := by kernel_rfl
set_option maxRecDepth 100000 in
set_option maxHeartbeats 1000000 in
theorem faultFaults (b0 : Nat) (op : Bytes) (a0 : Int) (v1 : Value) (l : List (Bytes × Int)) (e : Int) (w : World) (h0 : w.heap[b0]? = some (.cells #[.string (str op), .int .i64 a0, v1] 161 (0, 0))) (h : ErrIs w v1 l e) (hl : l.length ≤ 100) (hG : ErrG w) :
    Calls Tryz.prog 71 #[.iface 159 (.pointer (some ⟨b0, 0, none⟩))] w fun en w' => ∃ A c xs, en = .returned (.slice A (l.length + 1) c) ∧ w'.ownsRow w.heap.size 159 1 (.slice A (l.length + 1) c) (l.length + 1) xs ∧ xs[0]? = some (.pointer (some ⟨b0, 0, none⟩)) ∧ Pu w w' := by
  have HG := Lib.hid hG
  have H := Lib.hid (ErrIs.cons h0 h)
  clear h0 h hG
  go_enter Tryz.func71, Tryz.ntmps71
  go_wp2
  go_loopg [0, 3, 4] (l.length + 1) (fun k x out _ wr => ∃ (j : Nat) (l' : List (Bytes × Int)) (xs : List Value), l'.length = k ∧ j + k = l.length + 1 ∧ ErrIs wr x l' e ∧ wr.ownsRow w.heap.size 159 1 out j xs ∧ Hid ((0 < j → xs[0]? = some (.pointer (some ⟨b0, 0, none⟩))) ∧ (j = 0 → x = .iface 159 (.pointer (some ⟨b0, 0, none⟩)))) ∧ Pu w wr)
  case atStart => exact ⟨0, _, [], by simp, by simp, H.out, World.ownsRow_nil _ _ _ _, ⟨fun h => absurd h (Nat.lt_irrefl _), fun _ => rfl⟩, Fr.refl _ _⟩
  case round =>
    obtain ⟨j, l', xs, hk, hjk, hx, ho, Hx0, hp⟩ := hrel
    obtain ⟨A3, c3, rfl⟩ := own_shape ho
    have Hk := Lib.hid hk
    have Hjk := Lib.hid hjk
    have Ho := Lib.hid ho
    have Hp := Lib.hid hp
    clear hk hjk ho hp H
    cases hx with
    | leaf =>
      go_wp2_with fail
      refine (errorsAsMiss e wr.heap.size (.pointer none) _ (HG.out.pu (Hp.out.alloc _)) (heap_alloc_new _ _)).mono ?_
      rintro en w2 ⟨rfl, hp2⟩
      have Hp2 := Lib.hid (((Fr.refl _ _).alloc _ : Pu wr _).pu hp2)
      clear hp2
      go_wp2
      go_ret
      have hk := Hk.out
      have hjk := Hjk.out
      simp at hk
      obtain rfl : j = l.length + 1 := by omega
      exact ⟨_, _, xs, rfl, own_pu Ho.out Hp2.out, Hx0.out.1 (by omega), Hp.out.pu Hp2.out⟩
    | @cons b op1 a1 v2 l2 _ hb hx =>
      have Hb := Lib.hid hb
      have Hx := Lib.hid hx
      obtain ⟨tx, ux, rfl⟩ := hx.iface
      clear hb hx
      go_wp2_with fail
      refine (errorsAsHit b wr.heap.size (.pointer none) _ (HG.out.pu (Hp.out.alloc _)) (heap_alloc_new _ _)).mono ?_
      rintro en w2 ⟨rfl, hc2, hf2⟩
      have hpw : Pu wr w2 := ((Fr.refl _ _).alloc _ : Pu wr _).trans hf2 (fun k hk e => by have e : k = wr.heap.size := e; omega)
      have hb2 := (hpw.block b (blk_lt Hb.out) (fun h => h)).trans Hb.out
      have c2 : w2.cell? ⟨b, 2, none⟩ = some (.iface tx ux) := by rw [cell_of_row _ _ _ _ _ _ hb2]; rfl
      have hlt2 : wr.heap.size < w2.heap.size := World.block_lt_of_cell? w2 _ hc2
      have hblt := blk_lt hb2
      have Hpw := Lib.hid hpw
      have Hb2 := Lib.hid hb2
      have Ho2 := Lib.hid (own_pu Ho.out hpw)
      have hjl : j ≤ 200 := by have := Hjk.out; omega
      clear hpw hb2 hf2
      have Hpu := Lib.hid (fun (k : Nat) (cs : Array Value) (h : wr.heap[k]? = some (Obj.cells cs 161 (0, 0))) => (Hpw.out.block k (blk_lt h) (fun h => h)).trans h)
      have Hkeep := Lib.hid (fun (w3 : World) (o : Obj) (hgrow : (w2.alloc o).grownBy w3 (Value.slice A3 j c3).ownBlock) => (show (∀ (k : Nat) (cs : Array Value), wr.heap[k]? = some (Obj.cells cs 161 (0, 0)) → w3.heap[k]? = some (Obj.cells cs 161 (0, 0))) ∧ w3.cell? ⟨wr.heap.size, 0, none⟩ = some (.pointer (some ⟨b, 0, none⟩)) from
        ⟨fun k cs h => (hgrow.block k (by have := blk_lt (Hpu.out k cs h); simp; omega) (blk_ne (Hpu.out k cs h) Ho2.out (by decide))).trans ((heap_alloc_old _ _ (blk_lt (Hpu.out k cs h))).trans (Hpu.out k cs h)), hgrow.cell ((World.cell?_of_block (a := ⟨wr.heap.size, 0, none⟩) (heap_alloc_old w2 o hlt2)).trans hc2) (fun e => by have e : some wr.heap.size = (Value.slice A3 j c3).ownBlock := e; have := (own_lt Ho.out _ e.symm).2; omega)⟩))
      go_wp2_with (at_builtin; refine wpList_append_any _ rfl (.tmp 14) (.tmp 16) 157 rfl w.heap.size 159 (.pointer none) 1 8 Tryz.underlying157 infoPF rfl (by decide) (.slice A3 j c3) j xs rfl (Ho2.out.alloc _) (some ⟨w2.heap.size, 0, none⟩) 1 1 [.pointer (some ⟨b, 0, none⟩)] rfl (rds_new w2 [.pointer (some ⟨b, 0, none⟩)] _ 1 1 rfl) (by simp [Value.oneCell']) (by omega) (by have := Hp.out.size; have := Hpw.out.size; simp; omega) ?_; intro v3 w3 hown hgrow hat; obtain ⟨A4, c4, rfl⟩ := own_shape hown; obtain ⟨hk3, d3⟩ := Hkeep.out w3 _ hgrow; have Hk3 := Lib.hid hk3; have hb3 := hk3 _ _ Hb.out; have c3 : w3.cell? ⟨b, 2, none⟩ = some (.iface tx ux) := (by rw [cell_of_row _ _ _ _ _ _ hb3]; rfl); have Hgrow := Lib.hid hgrow; have Hown := Lib.hid hown; clear hb3 hk3 hown hgrow hat)
      go_roundg l2.length
      case measure => have := Hk.out; simp at this; omega
      case rel =>
        have hk := Hk.out
        have hjk := Hjk.out
        simp only [List.length_cons] at hk
        have hxl : xs.length = j := by have := Ho.out.1; simpa using this
        refine ⟨j + 1, l2, xs ++ [.pointer (some ⟨b, 0, none⟩)], rfl, by omega, Hx.out.move Hk3.out, Hown.out, ⟨fun _ => ?_, fun h => absurd h (by omega)⟩, ?_⟩
        · rcases Nat.eq_zero_or_pos j with h0 | h0
          · have h1 := Hx0.out.2 h0
            injection h1 with _ h1
            injection h1 with h1
            injection h1 with h1
            injection h1 with h1
            subst h0
            have : xs = [] := List.eq_nil_of_length_eq_zero hxl
            rw [this, h1]; rfl
          · rw [List.getElem?_append_left (by omega)]; exact Hx0.out.1 h0
        · exact ((Hp.out.pu Hpw.out).alloc _).grown Hgrow.out (fun k hk e => by have := (own_lt Ho.out _ e).1; omega)
set_option maxRecDepth 100000 in
/-- The place of the outermost fault. -/
theorem faultPlace (b0 : Nat) (op : Bytes) (a0 : Int) (v1 : Value) (l : List (Bytes × Int)) (e : Int) (w : World) (h0 : w.heap[b0]? = some (.cells #[.string (str op), .int .i64 a0, v1] 161 (0, 0))) (h : ErrIs w v1 l e) (hl : l.length ≤ 100) (hG : ErrG w) :
    Calls Tryz.prog 20 #[.iface 159 (.pointer (some ⟨b0, 0, none⟩)), .string (str op)] w fun en w' => en = .returned (.tuple #[.int .i64 a0, .bool true]) ∧ Pu w w' := by
  have H0 := Lib.hid h0
  have H := Lib.hid h
  have HG := Lib.hid hG
  clear h0 h hG
  go_enter Tryz.func20, Tryz.ntmps20
  go_wp2_with fail
  refine (faultFaults b0 op a0 v1 l e w H0.out H.out hl HG.out).mono ?_
  rintro en w1 ⟨A, c, xs, rfl, ho, hx, hp⟩
  obtain ⟨g, c', hg⟩ := (show ∃ g c', (Value.slice A (l.length + 1) c) = .slice (some ⟨g, 0, none⟩) (l.length + 1) c' from by
    rcases ho.2 with ⟨_, h0⟩ | ⟨g, cap, _, hv, _⟩
    · omega
    · exact ⟨g, cap, hv⟩)
  injection hg with hg _ hg2
  subst hg hg2
  have hc := ho.cells (g := g) rfl 0 _ hx
  rw [Addr.add_lit] at hc
  have hb := (hp.block b0 (blk_lt H0.out) (fun h => h)).trans H0.out
  have c0 : w1.cell? ⟨b0, 0, none⟩ = some (.string (str op)) := by rw [cell_of_row _ _ _ _ _ _ hb]; rfl
  have c1 : w1.cell? ⟨b0, 1, none⟩ = some (.int .i64 a0) := by rw [cell_of_row _ _ _ _ _ _ hb]; rfl
  have Hp := Lib.hid hp
  clear ho hx hb hp
  go_wp2
  refine wp_loop_rounds 1 ?_
  rw [rounds_succ]
  go_wp2
  go_ret2
  exact ⟨rfl, Hp.out⟩
set_option maxRecDepth 100000 in
/-- The number of an error, as the statements read it. -/
theorem lawCode (v : Value) (op : Bytes) (a : Int) (l : List (Bytes × Int)) (e : Int) (w : World) (h : ErrIs w v ((op, a) :: l) e) (hl : l.length ≤ 100) (hG : ErrG w) :
    Calls Tryz.prog 7 #[v, .string (str op), .int .i64 a] w fun en w' => en = .returned (.int .i64 e) ∧ Pu w w' := by
  have H := Lib.hid h
  have HG := Lib.hid hG
  cases h with
  | @cons b _ _ v1 _ _ hb hx =>
  have C := Lib.hid (faultPlace b op a v1 l e w hb hx hl hG)
  clear hb hx hG
  go_enter Tryz.func7, Tryz.ntmps7
  go_wp2_with fail
  refine C.out.mono ?_
  rintro en w1 ⟨rfl, hp⟩
  have Hp := Lib.hid hp
  clear hp
  go_wp2_with fail
  refine (faultCode _ _ e w1 (H.out.pu Hp.out) (HG.out.pu Hp.out)).mono ?_
  rintro en w2 ⟨rfl, hp⟩
  have Hp2 := Lib.hid (Hp.out.pu hp)
  clear hp
  go_wp2
  go_ret
  exact ⟨rfl, Hp2.out⟩
theorem lawCodeNil (op : Bytes) (a : Int) (w : World) :
    Calls Tryz.prog 7 #[.nilIface, .string (str op), .int .i64 a] w fun en w' => en = .returned (.int .i64 0) ∧ w = w' := by
  go_enter Tryz.func7, Tryz.ntmps7
  go_wp2
  go_ret
  exact ⟨rfl, rfl⟩
end Go.Proofs.YtaendhbiehknlaaGreatDoor
