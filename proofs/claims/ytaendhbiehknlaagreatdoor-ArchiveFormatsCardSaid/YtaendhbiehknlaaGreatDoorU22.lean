/- What is proved here, of the given program: errors.As, the target a Fault. -/
import Derived.Test.YtaendhbiehknlaaGreatDoorU21
set_option linter.unusedVariables false
set_option linter.unusedSimpArgs false
set_option linter.constructorNameAsVariable false
namespace Go.Proofs.YtaendhbiehknlaaGreatDoor
open Go.RowKit Go.Proofs Go.Extern.Stop Go.Stop Go.Extern

theorem rf.partsT (a : Addr) (w : World) : (ReflectliteValue.parts (.agg #[.pointer (some ⟨5, 247, none⟩), .pointer (some a), .int .u64 150])).run Tryz.prog w = .ok (some (247, a, 150)) w := by kernel_rfl
theorem rf.elemOf (w : World) : (Rtype.elem? 247).run Tryz.prog w = .ok (some 159) w := by kernel_rfl
theorem rf.mk (p : Addr) (w : World) : (ReflectliteValue.mk 159 p ReflectliteValue.flagAddr).run Tryz.prog w = .ok (.agg #[.pointer (some ⟨5, 159, none⟩), .pointer (some p), .int .u64 406]) w := by kernel_rfl
theorem rf.elemV (a p : Addr) (W : World) (ha : W.cell? a = some (.pointer (some p))) :
    (ReflectliteValue.method (ReflectliteValue.valueError "reflectlite.Value.Elem" 0) ReflectliteValue.elem #[.agg #[.pointer (some ⟨5, 247, none⟩), .pointer (some a), .int .u64 150]]).run Tryz.prog W
      = .ok (.agg #[.pointer (some ⟨5, 159, none⟩), .pointer (some p), .int .u64 406]) W := by
  rw [rlm]
  simp only [Sem.run_bind, rf.partsT, Result.andThen]
  simp [ReflectliteValue.elem, loadVar, isAgg, underlying, Tryz.underlying247, ha, Result.andThen, rf.elemOf, rf.mk]
theorem rf.valueOfF (p : Addr) (w : World) : (ReflectliteValue.unpack (.iface 159 (.pointer (some p)))).run Tryz.prog w = .ok (.agg #[.pointer (some ⟨5, 159, none⟩), .pointer (some ⟨w.heap.size, 0, none⟩), .int .u64 150]) (w.alloc (.cells #[.pointer (some p)] 159)) := by kernel_rfl
theorem rf.partsA (a : Addr) (w : World) : (ReflectliteValue.parts (.agg #[.pointer (some ⟨5, 159, none⟩), .pointer (some a), .int .u64 406])).run Tryz.prog w = .ok (some (159, a, 406)) w := by kernel_rfl
theorem rf.partsE (a : Addr) (w : World) : (ReflectliteValue.parts (.agg #[.pointer (some ⟨5, 159, none⟩), .pointer (some a), .int .u64 150])).run Tryz.prog w = .ok (some (159, a, 150)) w := by kernel_rfl
theorem rf.direct (w : World) : (Rtype.directlyAssignable 159 159).run Tryz.prog w = .ok true w := by kernel_rfl
theorem rf.set (ta b p : Addr) (old : Value) (W : World) (hb : W.cell? b = some (.pointer (some p))) (ht : W.cell? ta = some old) (hf : W.frozen? ta = false) :
    (ReflectliteValue.set #[.agg #[.pointer (some ⟨5, 159, none⟩), .pointer (some ta), .int .u64 406], .agg #[.pointer (some ⟨5, 159, none⟩), .pointer (some b), .int .u64 150]]).run Tryz.prog W
      = .ok (.tuple #[]) (W.setCell ta (.pointer (some p))) := by
  rw [rls]
  simp only [Sem.run_bind, rf.partsA, rf.partsE, Result.andThen]
  simp [ReflectliteValue.flagAddr, loadVar, isAgg, underlying, Tryz.underlying159, hb, Result.andThen, rf.direct, storeVar, Value.cells, storeCells, Addr.add]
  rw [run_store Tryz.prog W ta _ _ (by rfl)]
  simp [ht, hf]
theorem rf.type (a : Addr) (w : World) : (ReflectliteValue.methodAny (ReflectliteValue.valueError "reflectlite.Value.Type" 0) (fun t _ _ _ => ReflectliteType.toType t) #[.agg #[.pointer (some ⟨5, 247, none⟩), .pointer (some a), .int .u64 150]]).run Tryz.prog w
    = .ok (.iface 345 (Rt 247)) w := by kernel_rfl
theorem rf.kindP (w : World) : ((ReflectliteType.abiMethod fun t => (fun a : Nat => Value.int IntKind.u8 (a : Int)) <$> Rtype.kind t) #[.pointer (some ⟨5, 247, none⟩)]).run Tryz.prog w = .ok (.int .u8 22) w := by kernel_rfl
theorem rf.kind (w : World) : ((ReflectliteType.abiMethod fun t => (fun a : Nat => Value.int IntKind.u8 (a : Int)) <$> Rtype.kind t) #[.pointer (some ⟨5, 159, none⟩)]).run Tryz.prog w = .ok (.int .u8 22) w := by kernel_rfl
theorem rf.isNil (a p : Addr) (W : World) (ha : W.cell? a = some (.pointer (some p))) :
    (ReflectliteValue.method (ReflectliteValue.valueError "reflectlite.Value.IsNil" 0) ReflectliteValue.isNil #[.agg #[.pointer (some ⟨5, 247, none⟩), .pointer (some a), .int .u64 150]]).run Tryz.prog W = .ok (.bool false) W := by
  rw [rlm]
  simp only [Sem.run_bind, rf.partsT, Result.andThen]
  simp [ReflectliteValue.isNil, loadVar, isAgg, underlying, Tryz.underlying247, ha, Result.andThen]
theorem rf.elem (w : World) : (ReflectliteType.method ReflectliteType.elem #[Rt 247]).run Tryz.prog w = .ok (.iface 345 (Rt 159)) w := by kernel_rfl
theorem rf.implements (w : World) : (ReflectliteType.relation "Implements" ReflectliteType.implements_ #[Rt 159, .iface 345 (Rt 35)]).run Tryz.prog w = .ok (.bool true) w := by kernel_rfl
set_option maxRecDepth 100000 in
set_option maxHeartbeats 1000000 in
theorem asFaultHit (p : Addr) (t : Nat) (a : Addr) (old tv : Value) (w : World) (ha : w.cell? a = some (.pointer (some ⟨t, 0, none⟩))) (ht : w.heap[t]? = some (.cells #[old] 159 (0, 0))) :
    Calls Tryz.prog 123 #[.iface 159 (.pointer (some p)), tv, .agg #[.pointer (some ⟨5, 247, none⟩), .pointer (some a), .int .u64 150], .iface 345 (Rt 159)] w fun en w' => en = .returned (.bool true) ∧ w'.cell? ⟨t, 0, none⟩ = some (.pointer (some p)) ∧ Fr (At t) w w' := by
  have y202 := @run_callFunc_extern Tryz.prog 202 _ ReflectliteType.typeOf Tryz.func202 (by kernel_rfl) (by kernel_rfl) (by kernel_rfl) (by kernel_rfl)
  have y457 := @run_callFunc_extern Tryz.prog 457 _ (ReflectliteType.relation "AssignableTo" ReflectliteType.assignableTo) Tryz.func457 (by kernel_rfl) (by kernel_rfl) (by kernel_rfl) (by kernel_rfl)
  have y203 := @run_callFunc_extern Tryz.prog 203 _ (ReflectliteValue.method (ReflectliteValue.valueError "reflectlite.Value.Elem" 0) ReflectliteValue.elem) Tryz.func203 (by kernel_rfl) (by kernel_rfl) (by kernel_rfl) (by kernel_rfl)
  have y120 := @run_callFunc_extern Tryz.prog 120 _ (fun args => ReflectliteValue.unpack (args.getD 0 (.tuple #[]))) Tryz.func120 (by kernel_rfl) (by kernel_rfl) (by kernel_rfl) (by kernel_rfl)
  have y204 := @run_callFunc_extern Tryz.prog 204 _ ReflectliteValue.set Tryz.func204 (by kernel_rfl) (by kernel_rfl) (by kernel_rfl) (by kernel_rfl)
  have m1 := rl.methodAssignableTo
  have f1 := rf.typeOf
  have f3 := rl.ff
  have f9 := rf.valueOfF
  have Ht := Lib.hid ht
  have htl := blk_lt ht
  have hal := World.block_lt_of_cell? w _ ha
  have Ha := Lib.hid ha
  clear ht ha
  go_enter Tryz.func123, Tryz.ntmps123
  go_wp2
  have hpu : Pu w (w.alloc (.cells #[.pointer (some ⟨5, 247, none⟩), .pointer (some a), .int .u64 150] 251)) := (Fr.refl _ _).alloc _
  have b0 : (w.alloc (.cells #[.pointer (some ⟨5, 247, none⟩), .pointer (some a), .int .u64 150] 251)).heap[w.heap.size]? = some (.cells #[.pointer (some ⟨5, 247, none⟩), .pointer (some a), .int .u64 150] 251 (0, 0)) := heap_alloc_new _ _
  generalize w.alloc (.cells #[.pointer (some ⟨5, 247, none⟩), .pointer (some a), .int .u64 150] 251) = W at *
  have c0 : W.cell? ⟨w.heap.size, 0, none⟩ = some (.pointer (some ⟨5, 247, none⟩)) := by rw [cell_of_row _ _ _ _ _ _ b0]; rfl
  have c1 : W.cell? ⟨w.heap.size, 1, none⟩ = some (.pointer (some a)) := by rw [cell_of_row _ _ _ _ _ _ b0]; rfl
  have c2 : W.cell? ⟨w.heap.size, 2, none⟩ = some (.int .u64 150) := by rw [cell_of_row _ _ _ _ _ _ b0]; rfl
  have Hpu := Lib.hid hpu
  have HtW := Lib.hid ((hpu.block t htl (fun h => h)).trans Ht.out)
  have haW := (World.cell?_of_block (a := a) (hpu.block a.block hal (fun h => h))).trans Ha.out
  have he1 := rf.elemV a ⟨t, 0, none⟩ W haW
  have hbt : (W.alloc (.cells #[.pointer (some p)] 159)).heap[t]? = some (.cells #[old] 159 (0, 0)) := (heap_alloc_old _ _ (blk_lt HtW.out)).trans HtW.out
  have hs1 := rf.set ⟨t, 0, none⟩ ⟨W.heap.size, 0, none⟩ p old (W.alloc (.cells #[.pointer (some p)] 159)) (by simp) (by rw [cell_of_row _ _ _ _ _ _ hbt]; rfl) (by simp [World.frozen?, hbt])
  have Hbt := Lib.hid hbt
  clear hbt b0 hpu
  refine wp_loop_rounds 1 ?_
  rw [rounds_succ]
  go_wp2
  go_ret
  refine ⟨rfl, ?_, (Hpu.out.any.alloc _).set _ _ (fun _ => rfl)⟩
  have h9 : ((W.alloc (.cells #[.pointer (some p)] 159)).setCell ⟨t, 0, none⟩ (.pointer (some p))).heap[t]? = some (.cells #[.pointer (some p)] 159 (0, 0)) := by simp [World.setCell, Array.getElem?_modify, Hbt.out]
  rw [cell_of_row _ _ _ _ _ _ h9]; rfl
set_option maxRecDepth 100000 in
set_option maxHeartbeats 1000000 in
theorem asFaultMiss (n : Int) (a : Addr) (tv : Value) (w : World) :
    Calls Tryz.prog 123 #[.iface 28 (.int .i64 n), tv, .agg #[.pointer (some ⟨5, 247, none⟩), .pointer (some a), .int .u64 150], .iface 345 (Rt 159)] w fun en w' => en = .returned (.bool false) ∧ Pu w w' := by
  have y202 := @run_callFunc_extern Tryz.prog 202 _ ReflectliteType.typeOf Tryz.func202 (by kernel_rfl) (by kernel_rfl) (by kernel_rfl) (by kernel_rfl)
  have y457 := @run_callFunc_extern Tryz.prog 457 _ (ReflectliteType.relation "AssignableTo" ReflectliteType.assignableTo) Tryz.func457 (by kernel_rfl) (by kernel_rfl) (by kernel_rfl) (by kernel_rfl)
  have m1 := rl.methodAssignableTo
  have f1 := re.typeOf
  have f3 := rl.ef
  have f6 := re.noAs
  have f7 := re.noUnwrap
  have f8 := re.noUnwraps
  go_enter Tryz.func123, Tryz.ntmps123
  go_wp2
  refine wp_loop_rounds 1 ?_
  rw [rounds_succ]
  go_wp2
  go_ret
  exact ⟨rfl, (Fr.refl _ _).alloc _⟩
end Go.Proofs.YtaendhbiehknlaaGreatDoor
