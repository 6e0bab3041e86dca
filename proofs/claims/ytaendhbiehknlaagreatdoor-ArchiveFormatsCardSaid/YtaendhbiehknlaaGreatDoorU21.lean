/- What is proved here, of the given program: Faults: Wrap, Again; errors.As at the two targets that the code asks for. errors.As at the two targets. errors.As, the target an Errno; fault.Code. -/
import Derived.Test.YtaendhbiehknlaaGreatDoorU04
import Derived.LaidEql
import Derived.Stop.Asserts
import Derived.RowKitTokens
set_option linter.unusedVariables false
set_option linter.unusedSimpArgs false
set_option linter.constructorNameAsVariable false
namespace Go.Proofs.YtaendhbiehknlaaGreatDoor
open Go.RowKit Go.Proofs Go.Extern.Stop Go.Stop Go.Extern

/-- An error: faults around a number. -/
inductive ErrIs (w : World) : Value → List (Bytes × Int) → Int → Prop
  | leaf (e : Int) : ErrIs w (.iface 28 (.int .i64 e)) [] e
  | cons {b : Nat} {op : Bytes} {a : Int} {v : Value} {l : List (Bytes × Int)} {e : Int} : w.heap[b]? = some (.cells #[.string (str op), .int .i64 a, v] 161 (0, 0)) → ErrIs w v l e → ErrIs w (.iface 159 (.pointer (some ⟨b, 0, none⟩))) ((op, a) :: l) e
theorem ErrIs.move {w w' : World} {v : Value} {l : List (Bytes × Int)} {e : Int} (h : ErrIs w v l e) (hm : ∀ (k : Nat) (cs : Array Value), w.heap[k]? = some (Obj.cells cs 161 (0, 0)) → w'.heap[k]? = some (Obj.cells cs 161 (0, 0))) : ErrIs w' v l e := by
  induction h with
  | leaf e => exact .leaf e
  | cons hb _ ih => exact .cons (hm _ _ hb) ih
theorem ErrIs.pu {w w' : World} {v : Value} {l : List (Bytes × Int)} {e : Int} (h : ErrIs w v l e) (hp : Pu w w') : ErrIs w' v l e :=
  h.move (fun k cs hk => (hp.block k (blk_lt hk) (fun h => h)).trans hk)
theorem ErrIs.iface {w : World} {v : Value} {l : List (Bytes × Int)} {e : Int} (h : ErrIs w v l e) : ∃ t u, v = .iface t u := by cases h <;> exact ⟨_, _, rfl⟩
theorem faultWrap (op : Bytes) (a e : Int) (w : World) (he : e ≠ 0) :
    Calls Tryz.prog 22 #[.string (str op), .int .i64 a, .int .i64 e] w fun en w' => ∃ v, en = .returned v ∧ ErrIs w' v [(op, a)] e ∧ Pu w w' := by
  have h1 : (e == 0) = false := by simpa using he
  go_enter Tryz.func22, Tryz.ntmps22
  go_wp2
  go_ret
  exact ⟨_, rfl, .cons (heap_alloc_new _ _) (.leaf e), (Fr.refl _ _).alloc _⟩
theorem faultWrapNo (op : Bytes) (a : Int) (w : World) :
    Calls Tryz.prog 22 #[.string (str op), .int .i64 a, .int .i64 0] w fun en w' => en = .returned .nilIface ∧ w = w' := by
  go_enter Tryz.func22, Tryz.ntmps22
  go_wp2
  go_ret
  exact ⟨rfl, rfl⟩
theorem faultAgain (op : Bytes) (a : Int) (v : Value) (l : List (Bytes × Int)) (e : Int) (w : World) (h : ErrIs w v l e) :
    Calls Tryz.prog 27 #[.string (str op), .int .i64 a, v] w fun en w' => ∃ v', en = .returned v' ∧ ErrIs w' v' ((op, a) :: l) e ∧ Pu w w' := by
  obtain ⟨t, u, rfl⟩ := h.iface
  have H := Lib.hid h
  clear h
  go_enter Tryz.func27, Tryz.ntmps27
  go_wp2
  go_ret
  exact ⟨_, rfl, .cons (heap_alloc_new _ _) (H.out.pu ((Fr.refl _ _).alloc _)), (Fr.refl _ _).alloc _⟩
theorem faultAgainNo (op : Bytes) (a : Int) (w : World) :
    Calls Tryz.prog 27 #[.string (str op), .int .i64 a, .nilIface] w fun en w' => en = .returned .nilIface ∧ w = w' := by
  go_enter Tryz.func27, Tryz.ntmps27
  go_wp2
  go_ret
  exact ⟨rfl, rfl⟩
theorem faultUnwrap (b : Nat) (op : Bytes) (a : Int) (v : Value) (w : World) (h : w.heap[b]? = some (.cells #[.string (str op), .int .i64 a, v] 161 (0, 0))) :
    Calls Tryz.prog 443 #[.pointer (some ⟨b, 0, none⟩)] w fun en w' => en = .returned v ∧ w = w' := by
  have c2 : w.cell? ⟨b, 2, none⟩ = some v := by rw [cell_of_row w b 2 _ _ _ h]; rfl
  clear h
  go_enter Tryz.func443, Tryz.ntmps443
  go_wp2
  go_ret
  exact ⟨rfl, rfl⟩

/-! ### the entries for internal/reflectlite, at this program's types -/
abbrev Rt (t : Nat) : Value := .agg #[.pointer (some ⟨5, t, none⟩)]
theorem rl.methodKind (h : Value) (w : World) : (Go.method 656 345 (.agg #[h]) "Kind").run Tryz.prog w = .ok (429, h) w := by kernel_rfl
theorem rl.methodElem (h : Value) (w : World) : (Go.method 656 345 (.agg #[h]) "Elem").run Tryz.prog w = .ok (459, .agg #[h]) w := by kernel_rfl
theorem rl.methodImplements (h : Value) (w : World) : (Go.method 656 345 (.agg #[h]) "Implements").run Tryz.prog w = .ok (460, .agg #[h]) w := by kernel_rfl
theorem rl.methodAssignableTo (h : Value) (w : World) : (Go.method 656 345 (.agg #[h]) "AssignableTo").run Tryz.prog w = .ok (457, .agg #[h]) w := by kernel_rfl
theorem rlm (z : Sem Value) (f : TypeId → Addr → Nat → Nat → Sem Value) (v : Value) :
    ReflectliteValue.method z f #[v] = (do match ← ReflectliteValue.parts v with | none => z | some (t, a, fl) => f t a fl (fl % 32)) := rfl
theorem rls (v x : Value) : ReflectliteValue.set #[v, x] = (do
    let (some (dst, a, fl), some (src, b, _)) := (← ReflectliteValue.parts v, ← ReflectliteValue.parts x)
      | unsupported (.noEntry "extern/(internal/reflectlite.Value).Set.zeroValue")
    if fl / ReflectliteValue.flagAddr % 2 == 0 then unsupported (.noEntry "extern/(internal/reflectlite.Value).Set.unaddressable")
    let val ← loadVar src b
    if ← Rtype.directlyAssignable dst src then storeVar dst a val
    else if ← Rtype.implements dst src then
      if (← Rtype.kind src) == 20 then
        match val with
        | .nilIface => unsupported (.noEntry "extern/reflectlite: a nil value of one interface type handed on as a value of another")
        | _ => storeVar dst a val
      else storeVar dst a (.iface src val)
    else panicString ("reflectlite.Set: value of type " ++ (← Rtype.spelt src) ++ " is not assignable to type " ++ (← Rtype.spelt dst))
    pure (.tuple #[])) := rfl
/-! #### the target *Fault -/
theorem rf.valueOf (t : Addr) (w : World) : (ReflectliteValue.unpack (.iface 247 (.pointer (some t)))).run Tryz.prog w = .ok (.agg #[.pointer (some ⟨5, 247, none⟩), .pointer (some ⟨w.heap.size, 0, none⟩), .int .u64 150]) (w.alloc (.cells #[.pointer (some t)] 247)) := by kernel_rfl
theorem re.valueOf (t : Addr) (w : World) : (ReflectliteValue.unpack (.iface 163 (.pointer (some t)))).run Tryz.prog w = .ok (.agg #[.pointer (some ⟨5, 163, none⟩), .pointer (some ⟨w.heap.size, 0, none⟩), .int .u64 150]) (w.alloc (.cells #[.pointer (some t)] 163)) := by kernel_rfl
theorem re.valueOfE (e : Int) (w : World) : (ReflectliteValue.unpack (.iface 28 (.int .i64 e))).run Tryz.prog w = .ok (.agg #[.pointer (some ⟨5, 28, none⟩), .pointer (some ⟨w.heap.size, 0, none⟩), .int .u64 130]) (w.alloc (.cells #[.int .i64 e] 28)) := by kernel_rfl
theorem rf.noAs (v : Value) (w : World) : (Instr.typeAssert (.iface 159 v) 35 350 true).run Tryz.prog w = .ok (.tuple #[.nilIface, .bool false]) w := run_typeAssert_lacksB Tryz.underlying350 (by kernel_rfl) (by kernel_rfl) v _ w
theorem re.noAs (v : Value) (w : World) : (Instr.typeAssert (.iface 28 v) 35 350 true).run Tryz.prog w = .ok (.tuple #[.nilIface, .bool false]) w := run_typeAssert_lacksB Tryz.underlying350 (by kernel_rfl) (by kernel_rfl) v _ w
theorem rf.unwrap (v : Value) (w : World) : (Instr.typeAssert (.iface 159 v) 35 353 true).run Tryz.prog w = .ok (.tuple #[.iface 159 v, .bool true]) w := run_typeAssert_hasB Tryz.underlying353 (by kernel_rfl) v _ w
theorem re.noUnwrap (v : Value) (w : World) : (Instr.typeAssert (.iface 28 v) 35 353 true).run Tryz.prog w = .ok (.tuple #[.nilIface, .bool false]) w := run_typeAssert_lacksB Tryz.underlying353 (by kernel_rfl) (by kernel_rfl) v _ w
theorem re.noUnwraps (v : Value) (w : World) : (Instr.typeAssert (.iface 28 v) 35 354 true).run Tryz.prog w = .ok (.tuple #[.nilIface, .bool false]) w := run_typeAssert_lacksB Tryz.underlying354 (by kernel_rfl) (by kernel_rfl) v _ w
theorem rf.typeOf (v : Value) (w : World) : (ReflectliteType.typeOf #[.iface 159 v]).run Tryz.prog w = .ok (.iface 345 (Rt 159)) w := by kernel_rfl
theorem re.typeOf (v : Value) (w : World) : (ReflectliteType.typeOf #[.iface 28 v]).run Tryz.prog w = .ok (.iface 345 (Rt 28)) w := by kernel_rfl
theorem rl.ff (w : World) : (ReflectliteType.relation "AssignableTo" ReflectliteType.assignableTo #[Rt 159, .iface 345 (Rt 159)]).run Tryz.prog w = .ok (.bool true) w := by kernel_rfl
theorem rl.fe (w : World) : (ReflectliteType.relation "AssignableTo" ReflectliteType.assignableTo #[Rt 159, .iface 345 (Rt 28)]).run Tryz.prog w = .ok (.bool false) w := by kernel_rfl
theorem rl.ef (w : World) : (ReflectliteType.relation "AssignableTo" ReflectliteType.assignableTo #[Rt 28, .iface 345 (Rt 159)]).run Tryz.prog w = .ok (.bool false) w := by kernel_rfl
theorem rl.ee (w : World) : (ReflectliteType.relation "AssignableTo" ReflectliteType.assignableTo #[Rt 28, .iface 345 (Rt 28)]).run Tryz.prog w = .ok (.bool true) w := by kernel_rfl
theorem rf.methodUnwrap (p : Addr) (w : World) : (Go.method 656 159 (.pointer (some p)) "Unwrap").run Tryz.prog w = .ok (443, .pointer (some p)) w := by kernel_rfl
end Go.Proofs.YtaendhbiehknlaaGreatDoor

namespace Go.Proofs.YtaendhbiehknlaaGreatDoor
open Go.RowKit Go.Proofs Go.Extern.Stop Go.Stop Go.Extern

theorem re.partsT (a : Addr) (w : World) : (ReflectliteValue.parts (.agg #[.pointer (some ⟨5, 163, none⟩), .pointer (some a), .int .u64 150])).run Tryz.prog w = .ok (some (163, a, 150)) w := by kernel_rfl
theorem re.elemOf (w : World) : (Rtype.elem? 163).run Tryz.prog w = .ok (some 28) w := by kernel_rfl
theorem re.mk (p : Addr) (w : World) : (ReflectliteValue.mk 28 p ReflectliteValue.flagAddr).run Tryz.prog w = .ok (.agg #[.pointer (some ⟨5, 28, none⟩), .pointer (some p), .int .u64 386]) w := by kernel_rfl
theorem re.elemV (a p : Addr) (W : World) (ha : W.cell? a = some (.pointer (some p))) :
    (ReflectliteValue.method (ReflectliteValue.valueError "reflectlite.Value.Elem" 0) ReflectliteValue.elem #[.agg #[.pointer (some ⟨5, 163, none⟩), .pointer (some a), .int .u64 150]]).run Tryz.prog W
      = .ok (.agg #[.pointer (some ⟨5, 28, none⟩), .pointer (some p), .int .u64 386]) W := by
  rw [rlm]
  simp only [Sem.run_bind, re.partsT, Result.andThen]
  simp [ReflectliteValue.elem, loadVar, isAgg, underlying, Tryz.underlying163, ha, Result.andThen, re.elemOf, re.mk]
theorem re.partsA (a : Addr) (w : World) : (ReflectliteValue.parts (.agg #[.pointer (some ⟨5, 28, none⟩), .pointer (some a), .int .u64 386])).run Tryz.prog w = .ok (some (28, a, 386)) w := by kernel_rfl
theorem re.partsE (a : Addr) (w : World) : (ReflectliteValue.parts (.agg #[.pointer (some ⟨5, 28, none⟩), .pointer (some a), .int .u64 130])).run Tryz.prog w = .ok (some (28, a, 130)) w := by kernel_rfl
theorem re.direct (w : World) : (Rtype.directlyAssignable 28 28).run Tryz.prog w = .ok true w := by kernel_rfl
theorem re.set (ta b : Addr) (e : Int) (old : Value) (W : World) (hb : W.cell? b = some (.int .i64 e)) (ht : W.cell? ta = some old) (hf : W.frozen? ta = false) :
    (ReflectliteValue.set #[.agg #[.pointer (some ⟨5, 28, none⟩), .pointer (some ta), .int .u64 386], .agg #[.pointer (some ⟨5, 28, none⟩), .pointer (some b), .int .u64 130]]).run Tryz.prog W
      = .ok (.tuple #[]) (W.setCell ta (.int .i64 e)) := by
  rw [rls]
  simp only [Sem.run_bind, re.partsA, re.partsE, Result.andThen]
  simp [ReflectliteValue.flagAddr, loadVar, isAgg, underlying, Tryz.underlying28, hb, Result.andThen, re.direct, storeVar, Value.cells, storeCells, Addr.add]
  rw [run_store Tryz.prog W ta _ _ (by rfl)]
  simp [ht, hf]
set_option maxRecDepth 100000 in
set_option maxHeartbeats 1000000 in
/-- errors.as, the target an Errno: the number behind all faults. -/
theorem asErrno (v : Value) (l : List (Bytes × Int)) (e : Int) (t : Nat) (a : Addr) (old tv : Value) (w : World) (h : ErrIs w v l e) (ha : w.cell? a = some (.pointer (some ⟨t, 0, none⟩))) (ht : w.heap[t]? = some (.cells #[old] 28 (0, 0))) :
    Calls Tryz.prog 123 #[v, tv, .agg #[.pointer (some ⟨5, 163, none⟩), .pointer (some a), .int .u64 150], .iface 345 (Rt 28)] w fun en w' => en = .returned (.bool true) ∧ w'.cell? ⟨t, 0, none⟩ = some (.int .i64 e) ∧ Fr (At t) w w' := by
  have y202 := @run_callFunc_extern Tryz.prog 202 _ ReflectliteType.typeOf Tryz.func202 (by kernel_rfl) (by kernel_rfl) (by kernel_rfl) (by kernel_rfl)
  have y457 := @run_callFunc_extern Tryz.prog 457 _ (ReflectliteType.relation "AssignableTo" ReflectliteType.assignableTo) Tryz.func457 (by kernel_rfl) (by kernel_rfl) (by kernel_rfl) (by kernel_rfl)
  have y203 := @run_callFunc_extern Tryz.prog 203 _ (ReflectliteValue.method (ReflectliteValue.valueError "reflectlite.Value.Elem" 0) ReflectliteValue.elem) Tryz.func203 (by kernel_rfl) (by kernel_rfl) (by kernel_rfl) (by kernel_rfl)
  have y120 := @run_callFunc_extern Tryz.prog 120 _ (fun args => ReflectliteValue.unpack (args.getD 0 (.tuple #[]))) Tryz.func120 (by kernel_rfl) (by kernel_rfl) (by kernel_rfl) (by kernel_rfl)
  have y204 := @run_callFunc_extern Tryz.prog 204 _ ReflectliteValue.set Tryz.func204 (by kernel_rfl) (by kernel_rfl) (by kernel_rfl) (by kernel_rfl)
  have m1 := rl.methodAssignableTo
  have f1 := rf.typeOf
  have f2 := re.typeOf
  have f3 := rl.fe
  have f4 := rl.ee
  have f5 := rf.noAs
  have f6 := re.noAs
  have f7 := rf.unwrap
  have f8 := rf.methodUnwrap
  have f9 := re.valueOfE
  have Ha := Lib.hid ha
  have Ht := Lib.hid ht
  have H := Lib.hid h
  have htl := blk_lt ht
  have hal := World.block_lt_of_cell? w _ ha
  have hE := re.elemV a ⟨t, 0, none⟩
  have hSt := fun e b => re.set ⟨t, 0, none⟩ b e old
  have HE := Lib.hid hE
  have HS := Lib.hid hSt
  clear h ha ht hE hSt
  go_enter Tryz.func123, Tryz.ntmps123
  go_wp2
  have hpu : Pu w (w.alloc (.cells #[.pointer (some ⟨5, 163, none⟩), .pointer (some a), .int .u64 150] 251)) := (Fr.refl _ _).alloc _
  have b0 : (w.alloc (.cells #[.pointer (some ⟨5, 163, none⟩), .pointer (some a), .int .u64 150] 251)).heap[w.heap.size]? = some (.cells #[.pointer (some ⟨5, 163, none⟩), .pointer (some a), .int .u64 150] 251 (0, 0)) := heap_alloc_new _ _
  generalize w.alloc (.cells #[.pointer (some ⟨5, 163, none⟩), .pointer (some a), .int .u64 150] 251) = W at *
  have c0 : W.cell? ⟨w.heap.size, 0, none⟩ = some (.pointer (some ⟨5, 163, none⟩)) := by rw [cell_of_row _ _ _ _ _ _ b0]; rfl
  have c1 : W.cell? ⟨w.heap.size, 1, none⟩ = some (.pointer (some a)) := by rw [cell_of_row _ _ _ _ _ _ b0]; rfl
  have c2 : W.cell? ⟨w.heap.size, 2, none⟩ = some (.int .u64 150) := by rw [cell_of_row _ _ _ _ _ _ b0]; rfl
  have Hpu := Lib.hid hpu
  have HW := Lib.hid (H.out.pu hpu)
  have HtW := Lib.hid ((hpu.block t htl (fun h => h)).trans Ht.out)
  have haW := (World.cell?_of_block (a := a) (hpu.block a.block hal (fun h => h))).trans Ha.out
  clear b0 hpu
  go_loopg [0, 9, 10, 11, 12, 14, 15] l.length (fun k x _ _ _ _ _ _ wr => ∃ l', l'.length = k ∧ ErrIs W x l' e ∧ wr = W)
  case atStart => exact ⟨l, rfl, HW.out, rfl⟩
  case round =>
    obtain ⟨l', hk, hx, rfl⟩ := hrel
    have Hk := Lib.hid hk
    clear hk
    cases hx with
    | leaf =>
      have he1 := HE.out wr haW
      have hbt : (wr.alloc (.cells #[.int .i64 e] 28)).heap[t]? = some (.cells #[old] 28 (0, 0)) := (heap_alloc_old _ _ (blk_lt HtW.out)).trans HtW.out
      have hs1 := HS.out e ⟨wr.heap.size, 0, none⟩ (wr.alloc (.cells #[.int .i64 e] 28)) (by simp) (by rw [cell_of_row _ _ _ _ _ _ hbt]; rfl) (by simp [World.frozen?, hbt])
      have Hbt := Lib.hid hbt
      clear hbt
      go_wp2
      go_ret
      refine ⟨rfl, ?_, (Hpu.out.any.alloc _).set _ _ (fun _ => rfl)⟩
      have h9 : ((wr.alloc (.cells #[.int .i64 e] 28)).setCell ⟨t, 0, none⟩ (.int .i64 e)).heap[t]? = some (.cells #[.int .i64 e] 28 (0, 0)) := by simp [World.setCell, Array.getElem?_modify, Hbt.out]
      rw [cell_of_row _ _ _ _ _ _ h9]; rfl
    | @cons b op a1 v1 l2 _ hb hx =>
      obtain ⟨tx, ux, rfl⟩ := hx.iface
      have Hx := Lib.hid hx
      have Hb := Lib.hid hb
      clear hx hb
      go_wp2_with (go_at_call 443; refine (faultUnwrap _ _ _ _ _ Hb.out).mono ?_; rintro en w' ⟨rfl, rfl⟩)
      go_roundg l2.length
      case measure => have := Hk.out; simp at this; omega
      case rel => exact ⟨l2, rfl, Hx.out, rfl⟩
end Go.Proofs.YtaendhbiehknlaaGreatDoor

namespace Go.Proofs.YtaendhbiehknlaaGreatDoor
open Go.RowKit Go.Proofs Go.Extern.Stop Go.Stop Go.Extern

def ErrG (w : World) : Prop := w.cell? ⟨0, 0, none⟩ = some (.iface 345 (Rt 35))
theorem ErrG.lt {w : World} (h : ErrG w) : 0 < w.heap.size := World.block_lt_of_cell? w _ h
theorem ErrG.pu {w w' : World} (h : ErrG w) (hp : Pu w w') : ErrG w' := (hp.pcell _ _ h.lt).trans h
theorem re.type (a : Addr) (w : World) : (ReflectliteValue.methodAny (ReflectliteValue.valueError "reflectlite.Value.Type" 0) (fun t _ _ _ => ReflectliteType.toType t) #[.agg #[.pointer (some ⟨5, 163, none⟩), .pointer (some a), .int .u64 150]]).run Tryz.prog w
    = .ok (.iface 345 (Rt 163)) w := by kernel_rfl
theorem re.kindP (w : World) : ((ReflectliteType.abiMethod fun t => (fun a : Nat => Value.int IntKind.u8 (a : Int)) <$> Rtype.kind t) #[.pointer (some ⟨5, 163, none⟩)]).run Tryz.prog w = .ok (.int .u8 22) w := by kernel_rfl
theorem re.kind (w : World) : ((ReflectliteType.abiMethod fun t => (fun a : Nat => Value.int IntKind.u8 (a : Int)) <$> Rtype.kind t) #[.pointer (some ⟨5, 28, none⟩)]).run Tryz.prog w = .ok (.int .u8 2) w := by kernel_rfl
theorem re.isNil (a p : Addr) (W : World) (ha : W.cell? a = some (.pointer (some p))) :
    (ReflectliteValue.method (ReflectliteValue.valueError "reflectlite.Value.IsNil" 0) ReflectliteValue.isNil #[.agg #[.pointer (some ⟨5, 163, none⟩), .pointer (some a), .int .u64 150]]).run Tryz.prog W = .ok (.bool false) W := by
  rw [rlm]
  simp only [Sem.run_bind, re.partsT, Result.andThen]
  simp [ReflectliteValue.isNil, loadVar, isAgg, underlying, Tryz.underlying163, ha, Result.andThen]
theorem re.elem (w : World) : (ReflectliteType.method ReflectliteType.elem #[Rt 163]).run Tryz.prog w = .ok (.iface 345 (Rt 28)) w := by kernel_rfl
theorem re.implements (w : World) : (ReflectliteType.relation "Implements" ReflectliteType.implements_ #[Rt 28, .iface 345 (Rt 35)]).run Tryz.prog w = .ok (.bool true) w := by kernel_rfl
set_option maxRecDepth 100000 in
set_option maxHeartbeats 1000000 in
theorem errorsAsE (v : Value) (l : List (Bytes × Int)) (e : Int) (t : Nat) (old : Value) (w : World) (h : ErrIs w v l e) (hG : ErrG w) (ht : w.heap[t]? = some (.cells #[old] 28 (0, 0))) :
    Calls Tryz.prog 72 #[v, .iface 163 (.pointer (some ⟨t, 0, none⟩))] w fun en w' => en = .returned (.bool true) ∧ w'.cell? ⟨t, 0, none⟩ = some (.int .i64 e) ∧ Fr (At t) w w' := by
  have y120 := @run_callFunc_extern Tryz.prog 120 _ (fun args => ReflectliteValue.unpack (args.getD 0 (.tuple #[]))) Tryz.func120 (by kernel_rfl) (by kernel_rfl) (by kernel_rfl) (by kernel_rfl)
  have y121 := @run_callFunc_extern Tryz.prog 121 _ (ReflectliteValue.methodAny (ReflectliteValue.valueError "reflectlite.Value.Type" 0) (fun t _ _ _ => ReflectliteType.toType t)) Tryz.func121 (by kernel_rfl) (by kernel_rfl) (by kernel_rfl) (by kernel_rfl)
  have y122 := @run_callFunc_extern Tryz.prog 122 _ (ReflectliteValue.method (ReflectliteValue.valueError "reflectlite.Value.IsNil" 0) ReflectliteValue.isNil) Tryz.func122 (by kernel_rfl) (by kernel_rfl) (by kernel_rfl) (by kernel_rfl)
  have y429 := @run_callFunc_extern Tryz.prog 429 _ (ReflectliteType.abiMethod fun t => do pure (.int .u8 (← Rtype.kind t))) Tryz.func429 (by kernel_rfl) (by kernel_rfl) (by kernel_rfl) (by kernel_rfl)
  have y459 := @run_callFunc_extern Tryz.prog 459 _ (ReflectliteType.method ReflectliteType.elem) Tryz.func459 (by kernel_rfl) (by kernel_rfl) (by kernel_rfl) (by kernel_rfl)
  have y460 := @run_callFunc_extern Tryz.prog 460 _ (ReflectliteType.relation "Implements" ReflectliteType.implements_) Tryz.func460 (by kernel_rfl) (by kernel_rfl) (by kernel_rfl) (by kernel_rfl)
  have mK := rl.methodKind
  have mE := rl.methodElem
  have mI := rl.methodImplements
  have f1 := re.valueOf
  have f2 := re.type
  have f3 := re.kindP
  have f4 := re.kind
  have f5 := re.elem
  have f6 := re.implements
  obtain ⟨tx, ux, rfl⟩ := h.iface
  have H := Lib.hid h
  have Ht := Lib.hid ht
  have htl := blk_lt ht
  have HG := Lib.hid hG
  have hgl := hG.lt
  have hg := hG
  unfold ErrG at hg
  have hg2 : ((w.alloc (.cells #[.pointer (some ⟨t, 0, none⟩)] 163)).alloc (.cells #[.pointer (some ⟨5, 163, none⟩), .pointer (some ⟨w.heap.size, 0, none⟩), .int .u64 150] 251)).cell? ⟨0, 0, none⟩ = some (.iface 345 (Rt 35)) := by
    rw [World.cell?_alloc_lt _ _ ⟨0, 0, none⟩ (by simp), World.cell?_alloc_lt _ _ ⟨0, 0, none⟩ hgl]; exact hg
  have n8 := re.isNil ⟨w.heap.size, 0, none⟩ ⟨t, 0, none⟩ ((w.alloc (.cells #[.pointer (some ⟨t, 0, none⟩)] 163)).alloc (.cells #[.pointer (some ⟨5, 163, none⟩), .pointer (some ⟨w.heap.size, 0, none⟩), .int .u64 150] 251)) (by simp)
  clear h ht hG hg
  go_enter Tryz.func72, Tryz.ntmps72
  go_wp2_with fail
  have hpu : Pu w ((w.alloc (.cells #[.pointer (some ⟨t, 0, none⟩)] 163)).alloc (.cells #[.pointer (some ⟨5, 163, none⟩), .pointer (some ⟨w.heap.size, 0, none⟩), .int .u64 150] 251)) := ((Fr.refl _ _).alloc _).alloc _
  refine (asErrno _ l e t ⟨w.heap.size, 0, none⟩ old _ _ (H.out.pu hpu) (by simp) ((hpu.block t htl (fun h => h)).trans Ht.out)).mono ?_
  rintro en w3 ⟨rfl, hc, hf⟩
  have Hf := Lib.hid (hpu.any.trans hf (fun _ _ h => h))
  have Hc := Lib.hid hc
  clear hc hf hpu
  go_wp2
  go_ret
  exact ⟨rfl, Hc.out, Hf.out⟩
set_option maxRecDepth 100000 in
theorem faultCode (v : Value) (l : List (Bytes × Int)) (e : Int) (w : World) (h : ErrIs w v l e) (hG : ErrG w) :
    Calls Tryz.prog 21 #[v] w fun en w' => en = .returned (.int .i64 e) ∧ Pu w w' := by
  have H := Lib.hid h
  have HG := Lib.hid hG
  clear h hG
  go_enter Tryz.func21, Tryz.ntmps21
  go_wp2_with fail
  have hpu : Pu w (w.alloc (.cells #[.int .i64 0] 28)) := (Fr.refl _ _).alloc _
  refine (errorsAsE _ l e w.heap.size (.int .i64 0) _ (H.out.pu hpu) (HG.out.pu hpu) (heap_alloc_new _ _)).mono ?_
  rintro en w3 ⟨rfl, hc, hf⟩
  have Hf := Lib.hid (hpu.trans hf (fun k hk e => by have e : k = w.heap.size := e; omega))
  clear hf hpu
  go_wp2
  go_ret
  exact ⟨rfl, Hf.out⟩
end Go.Proofs.YtaendhbiehknlaaGreatDoor
