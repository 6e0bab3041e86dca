/- What is proved here, of the given program: Superblocks: Find, Store. Superblocks: Find on a disk of one sector, Store. -/
import Derived.Test.YtaendhbiehknlaaGreatDoorU20
import Derived.Test.YtaendhbiehknlaaGreatDoorU23
set_option linter.unusedVariables false
set_option linter.unusedSimpArgs false
set_option linter.constructorNameAsVariable false
namespace Go.Proofs.YtaendhbiehknlaaGreatDoor
open Go.RowKit Go.Shelf Go.Proofs

def superT : Bytes := [115, 117, 112, 101, 114]
theorem superTs : (⟨#[115, 117, 112, 101, 114]⟩ : ByteArray) = str superT := rfl
def Sup0 : Value := .agg #[.int .i64 0, .int .i64 0, .int .i64 0, .int .i64 0, .int .i64 0]
set_option maxRecDepth 100000 in
set_option maxHeartbeats 1000000 in
theorem superFindYes (g : Nat) (img : Bytes) (calls : Int) (s : Sup) (w : World) (h : DiskAt w g img [] calls) (hl : img.length ≤ 17592186044416) (hc : calls < 0) (ht : 2 ≤ img.length / 128) (hs : newestSup (img.take 256) = some s) :
    Calls Tryz.prog 133 #[.pointer (some ⟨g, 0, none⟩)] w fun e w' => e = .returned (.tuple #[s.v, .nilIface]) ∧ Pu w w' := by
  have C1 := Lib.hid (fun (W : World) (hp : Pu w W) => diskRead g img [] calls 0 2 W (h.pu hp) (fun x hx => by simp at hx) hl hc (by omega) (by omega) ((thereB_iff _ _ _).2 (by omega)))
  have e1 : ((lay img []).drop (0 * 128)).take (2 * 128) = img.take 256 := rfl
  rw [e1] at C1
  have hlen : (img.take 256).length = 256 := by rw [List.length_take]; omega
  have Hlen := Lib.hid hlen
  have Hs := Lib.hid hs
  clear h ht hs hlen e1
  go_enter Tryz.func133, Tryz.ntmps133
  go_wp2_with fail
  have hp0 : Pu w (w.alloc (.cells #[.int .i64 0, .int .i64 0, .int .i64 0, .int .i64 0, .int .i64 0] 82)) := (Fr.refl _ _).alloc _
  have hb0 := heap_alloc_new w (.cells #[.int .i64 0, .int .i64 0, .int .i64 0, .int .i64 0, .int .i64 0] 82)
  generalize w.alloc (.cells #[.int .i64 0, .int .i64 0, .int .i64 0, .int .i64 0, .int .i64 0] 82) = w0 at *
  refine (C1.out w0 hp0).mono ?_
  rintro e w1 ⟨v1, rfl, ho1, hp1⟩
  obtain ⟨A1, c1, rfl⟩ := own_shape ho1
  have Ho1 := Lib.hid ho1
  have Hb1 := Lib.hid ((hp1.block _ (blk_lt hb0) (fun h => h)).trans hb0)
  have Hp1 := Lib.hid (hp0.pu hp1)
  clear hp0 hb0 hp1 ho1 C1
  go_wp2_with fail
  refine (superNewest _ (img.take 256) _ w1 (Bs.own Ho1.out) Hlen.out).mono ?_
  rintro e w2 ⟨rfl, hp2⟩
  rw [Hs.out, show supOf (some s) = (s, true) from rfl]
  have Hb2 := Lib.hid ((hp2.block _ (blk_lt Hb1.out) (fun h => h)).trans Hb1.out)
  have Hp2 := Lib.hid (Hp1.out.pu hp2)
  clear hp2
  obtain ⟨t0, t1, t2, t3, t4, f0⟩ := sup_block Hb2.out
  have hA := blk_lt Hb2.out
  obtain ⟨a, b, c, d, e⟩ := s
  unfold Sup.v
  dsimp only
  clear Hs
  go_wp2_with fail
  obtain ⟨wz, hwz⟩ : ∃ wz, wz = ((((w2.setCell ⟨w.heap.size, 0, none⟩ (.int .i64 a)).setCell ⟨w.heap.size, 1, none⟩ (.int .i64 b)).setCell ⟨w.heap.size, 2, none⟩ (.int .i64 c)).setCell ⟨w.heap.size, 3, none⟩ (.int .i64 d)).setCell ⟨w.heap.size, 4, none⟩ (.int .i64 e) := ⟨_, rfl⟩
  rw [← hwz]
  obtain ⟨x0, x1, x2, x3, x4, hfz⟩ := set5 Hb2.out hwz
  have hlz : w.heap.size < wz.heap.size := World.block_lt_of_cell? wz _ x0
  have hpz : Pu w (wz.alloc (.cells #[.int .i64 a, .int .i64 b, .int .i64 c, .int .i64 d, .int .i64 e] 82)) := (Fr.new Hp2.out hfz (Nat.le_refl _)).alloc _
  clear hwz t0 t1 t2 t3 t4 f0
  exact bodyPost_ret (v := .tuple #[.agg #[.int .i64 a, .int .i64 b, .int .i64 c, .int .i64 d, .int .i64 e], .nilIface]) (by simp [results, Tryz.results133, go_sem, x0, x1, x2, x3, x4, hlz]) rfl ⟨rfl, hpz⟩
set_option maxRecDepth 100000 in
set_option maxHeartbeats 1000000 in
theorem superFindNone (g : Nat) (img : Bytes) (calls : Int) (w : World) (h : DiskAt w g img [] calls) (hl : img.length ≤ 17592186044416) (hc : calls < 0) (ht : 2 ≤ img.length / 128) (hs : newestSup (img.take 256) = none) :
    Calls Tryz.prog 133 #[.pointer (some ⟨g, 0, none⟩)] w fun e w' => ∃ v, e = .returned (.tuple #[Sup0, v]) ∧ ErrIs w' v [(superT, 0)] 50 ∧ Pu w w' := by
  have C1 := Lib.hid (fun (W : World) (hp : Pu w W) => diskRead g img [] calls 0 2 W (h.pu hp) (fun x hx => by simp at hx) hl hc (by omega) (by omega) ((thereB_iff _ _ _).2 (by omega)))
  have e1 : ((lay img []).drop (0 * 128)).take (2 * 128) = img.take 256 := rfl
  rw [e1] at C1
  have hlen : (img.take 256).length = 256 := by rw [List.length_take]; omega
  have Hlen := Lib.hid hlen
  have Hs := Lib.hid hs
  clear h ht hs hlen e1
  go_enter Tryz.func133, Tryz.ntmps133
  go_wp2_with fail
  have hp0 : Pu w (w.alloc (.cells #[.int .i64 0, .int .i64 0, .int .i64 0, .int .i64 0, .int .i64 0] 82)) := (Fr.refl _ _).alloc _
  have hb0 := heap_alloc_new w (.cells #[.int .i64 0, .int .i64 0, .int .i64 0, .int .i64 0, .int .i64 0] 82)
  generalize w.alloc (.cells #[.int .i64 0, .int .i64 0, .int .i64 0, .int .i64 0, .int .i64 0] 82) = w0 at *
  refine (C1.out w0 hp0).mono ?_
  rintro e w1 ⟨v1, rfl, ho1, hp1⟩
  obtain ⟨A1, c1, rfl⟩ := own_shape ho1
  have Ho1 := Lib.hid ho1
  have Hb1 := Lib.hid ((hp1.block _ (blk_lt hb0) (fun h => h)).trans hb0)
  have Hp1 := Lib.hid (hp0.pu hp1)
  clear hp0 hb0 hp1 ho1 C1
  go_wp2_with fail
  refine (superNewest _ (img.take 256) _ w1 (Bs.own Ho1.out) Hlen.out).mono ?_
  rintro e w2 ⟨rfl, hp2⟩
  rw [Hs.out, show supOf none = (Sup.none, false) from rfl]
  have Hb2 := Lib.hid ((hp2.block _ (blk_lt Hb1.out) (fun h => h)).trans Hb1.out)
  have Hp2 := Lib.hid (Hp1.out.pu hp2)
  clear hp2
  have hA := blk_lt Hb2.out
  unfold Sup.v Sup.none
  dsimp only
  clear Hs
  go_wp2_with fail
  have hp3 : Pu w2 (w2.alloc (.cells #[.int .i64 0, .int .i64 0, .int .i64 0, .int .i64 0, .int .i64 0] 82)) := (Fr.refl _ _).alloc _
  generalize w2.alloc (.cells #[.int .i64 0, .int .i64 0, .int .i64 0, .int .i64 0, .int .i64 0] 82) = w3 at *
  rw [superTs]
  refine (faultWrap superT 0 50 w3 (by decide)).mono ?_
  rintro e w4 ⟨v4, rfl, he, hp4⟩
  obtain ⟨tx, ux, rfl⟩ := he.iface
  have Hb4 := Lib.hid (((hp3.pu hp4).block _ (blk_lt Hb2.out) (fun h => h)).trans Hb2.out)
  have Hp4 := Lib.hid ((Hp2.out.pu hp3).pu hp4)
  have He := Lib.hid he
  clear hp3 hp4 he
  obtain ⟨t0, t1, t2, t3, t4, f0⟩ := sup_block Hb4.out
  have hA4 := blk_lt Hb4.out
  go_wp2_with fail
  obtain ⟨wz, hwz⟩ : ∃ wz, wz = ((((w4.setCell ⟨w.heap.size, 0, none⟩ (.int .i64 0)).setCell ⟨w.heap.size, 1, none⟩ (.int .i64 0)).setCell ⟨w.heap.size, 2, none⟩ (.int .i64 0)).setCell ⟨w.heap.size, 3, none⟩ (.int .i64 0)).setCell ⟨w.heap.size, 4, none⟩ (.int .i64 0) := ⟨_, rfl⟩
  rw [← hwz]
  obtain ⟨x0, x1, x2, x3, x4, hfz⟩ := set5 Hb4.out hwz
  have hpz : Pu w wz := Fr.new Hp4.out hfz (Nat.le_refl _)
  have hez : ErrIs wz (.iface tx ux) [(superT, 0)] 50 := He.out.move (fun k cs hk => (hfz.block k (blk_lt hk) (fun e => by
    have e : k = w.heap.size := e
    rw [e, Hb4.out] at hk
    injection hk with hk
    injection hk with _ hk
    cases hk)).trans hk)
  clear hwz t0 t1 t2 t3 t4 f0
  exact bodyPost_ret (v := .tuple #[.agg #[.int .i64 0, .int .i64 0, .int .i64 0, .int .i64 0, .int .i64 0], .iface tx ux]) (by simp [results, Tryz.results133, go_sem, x0, x1, x2, x3, x4]) rfl ⟨_, rfl, hez, hpz⟩
end Go.Proofs.YtaendhbiehknlaaGreatDoor

namespace Go.Proofs.YtaendhbiehknlaaGreatDoor
open Go.RowKit Go.Shelf Go.Proofs

set_option maxRecDepth 100000 in
set_option maxHeartbeats 1000000 in
theorem superFindShort (g : Nat) (img : Bytes) (calls : Int) (w : World) (h : DiskAt w g img [] calls) (hl : img.length ≤ 17592186044416) (ht : img.length / 128 < 2) :
    Calls Tryz.prog 133 #[.pointer (some ⟨g, 0, none⟩)] w fun e w' => ∃ v, e = .returned (.tuple #[Sup0, v]) ∧ ErrIs w' v [(superT, 0)] 20 ∧ Pu w w' := by
  have C1 := Lib.hid (fun (W : World) (hp : Pu w W) => diskReadNo g img [] calls 0 2 W (h.pu hp) hl (by omega) (by
    cases hq : thereB (img.length / 128) 0 2
    · rfl
    · have := (thereB_iff _ _ _).1 hq; omega))
  clear h ht
  go_enter Tryz.func133, Tryz.ntmps133
  go_wp2_with fail
  have hp0 : Pu w (w.alloc (.cells #[.int .i64 0, .int .i64 0, .int .i64 0, .int .i64 0, .int .i64 0] 82)) := (Fr.refl _ _).alloc _
  have hb0 := heap_alloc_new w (.cells #[.int .i64 0, .int .i64 0, .int .i64 0, .int .i64 0, .int .i64 0] 82)
  generalize w.alloc (.cells #[.int .i64 0, .int .i64 0, .int .i64 0, .int .i64 0, .int .i64 0] 82) = w0 at *
  refine (C1.out w0 hp0).mono ?_
  rintro e w1 ⟨rfl, rfl⟩
  have Hb1 := Lib.hid hb0
  have Hp1 := Lib.hid hp0
  clear hp0 hb0 C1
  go_wp2_with fail
  rw [superTs]
  refine (faultWrap superT 0 20 _ (by decide)).mono ?_
  rintro e w4 ⟨v4, rfl, he, hp4⟩
  obtain ⟨tx, ux, rfl⟩ := he.iface
  have Hb4 := Lib.hid ((hp4.block _ (blk_lt Hb1.out) (fun h => h)).trans Hb1.out)
  have Hp4 := Lib.hid (Hp1.out.pu hp4)
  have He := Lib.hid he
  clear hp4 he
  obtain ⟨t0, t1, t2, t3, t4, f0⟩ := sup_block Hb4.out
  have hA4 := blk_lt Hb4.out
  go_wp2_with fail
  obtain ⟨wz, hwz⟩ : ∃ wz, wz = ((((w4.setCell ⟨w.heap.size, 0, none⟩ (.int .i64 0)).setCell ⟨w.heap.size, 1, none⟩ (.int .i64 0)).setCell ⟨w.heap.size, 2, none⟩ (.int .i64 0)).setCell ⟨w.heap.size, 3, none⟩ (.int .i64 0)).setCell ⟨w.heap.size, 4, none⟩ (.int .i64 0) := ⟨_, rfl⟩
  rw [← hwz]
  obtain ⟨x0, x1, x2, x3, x4, hfz⟩ := set5 Hb4.out hwz
  have hpz : Pu w wz := Fr.new Hp4.out hfz (Nat.le_refl _)
  have hez : ErrIs wz (.iface tx ux) [(superT, 0)] 20 := He.out.move (fun k cs hk => (hfz.block k (blk_lt hk) (fun e => by
    have e : k = w.heap.size := e
    rw [e, Hb4.out] at hk
    injection hk with hk
    injection hk with _ hk
    cases hk)).trans hk)
  clear hwz t0 t1 t2 t3 t4 f0
  exact bodyPost_ret (v := .tuple #[.agg #[.int .i64 0, .int .i64 0, .int .i64 0, .int .i64 0, .int .i64 0], .iface tx ux]) (by simp [results, Tryz.results133, go_sem, x0, x1, x2, x3, x4]) rfl ⟨_, rfl, hez, hpz⟩
set_option maxRecDepth 100000 in
set_option maxHeartbeats 1000000 in
theorem superStore (g : Nat) (img : Bytes) (calls : Int) (s : Sup) (w : World) (h : DiskNil w g img calls) (hl : img.length ≤ 17592186044416) (hc : calls < 0) (ht : 2 ≤ img.length / 128) (hs : s.right = true) :
    Calls Tryz.prog 28 #[.pointer (some ⟨g, 0, none⟩), s.v] w fun e w' => e = .returned .nilIface ∧ DiskNil w' g (patch img ((s.gen % 2).toNat * 128) s.bytes) calls ∧ Fr (At g) w w' := by
  have hr := (s.right_iff.1 hs).1
  obtain ⟨p, hp⟩ : ∃ p, p = (s.gen % 2).toNat := ⟨_, rfl⟩
  have hp2 : p < 2 := by rw [hp]; omega
  have hpi : s.gen % 2 = (p : Int) := by rw [hp]; omega
  rw [← hp]
  have hgl := h.at_.lt
  have Hd := Lib.hid h
  have C := Lib.hid (fun W : World => superOctets s W hs)
  have hlay := lay_parts img s.bytes p 1 (by rw [s.bytes_length]) (by omega)
  have hqok : QOk img.length (partsOf (p : Int) s.bytes 1) := partsOf_ok p s.bytes 1 img.length (by rw [s.bytes_length]) (by omega) 1 (Nat.le_refl _)
  have Hlay := Lib.hid hlay
  have Hq := Lib.hid hqok
  have Hbl := Lib.hid s.bytes_length
  have Ht := Lib.hid ht
  obtain ⟨b, hb⟩ : ∃ b, b = s.bytes := ⟨_, rfl⟩
  rw [← hb] at Hlay Hq Hbl C ⊢
  have hsv := sup_shape s
  rw [hsv] at C ⊢
  have hg0 : 1 ≤ s.gen := hr.1
  clear h hs hr hp hlay hqok ht hsv hb
  obtain ⟨sg, sb, ss, sn, sz⟩ := s
  dsimp only at *
  go_enter Tryz.func28, Tryz.ntmps28
  go_wp2_with fail
  have hp0 : Pu w (w.alloc (.cells #[.int .i64 sg, .int .i64 sb, .int .i64 ss, .int .i64 sn, .int .i64 sz] 82)) := (Fr.refl _ _).alloc _
  have hb0 := heap_alloc_new w (.cells #[.int .i64 sg, .int .i64 sb, .int .i64 ss, .int .i64 sn, .int .i64 sz] 82)
  generalize w.alloc (.cells #[.int .i64 sg, .int .i64 sb, .int .i64 ss, .int .i64 sn, .int .i64 sz] 82) = w0 at *
  refine (C.out w0).mono ?_
  rintro e w1 ⟨v1, rfl, ho1, hp1⟩
  obtain ⟨A1, c1, rfl⟩ := own_shape ho1
  have hb1 := (hp1.block _ (blk_lt hb0) (fun h => h)).trans hb0
  obtain ⟨t0, -, -, -, -, -⟩ := sup_block hb1
  have Ho1 := Lib.hid ho1
  have Hp1 := Lib.hid (hp0.pu hp1)
  clear hp0 hb0 hp1 ho1 hb1 C
  have hB1 : Bs (fun k => w0.heap.size ≤ k) w1 (.slice A1 b.length c1) b := by rw [Hbl.out]; exact Bs.own Ho1.out
  have hW := diskWrite g img calls p 1 (.slice A1 b.length c1) b _ w1 (Hd.out.pu Hp1.out) hB1 hl (by rw [Hbl.out]) hc ((thereB_iff _ _ _).2 (by have := Ht.out; omega))
  rw [Hbl.out] at hW
  have HW := Lib.hid hW
  clear hB1 hW
  go_wp2_with fail
  refine HW.out.mono ?_
  rintro e w2 ⟨rfl, hd2, hf2⟩
  have Hd2 := Lib.hid hd2
  have Hf2 := Lib.hid (Hp1.out.any.trans hf2 (fun _ _ h => h))
  clear hd2 hf2
  go_wp2_with fail
  refine (diskFlush g img _ calls w2 Hd2.out Hq.out hl hc).mono ?_
  rintro e w3 ⟨rfl, hd3, hf3⟩
  rw [Hlay.out] at hd3
  have Hd3 := Lib.hid hd3
  have Hf3 := Lib.hid (Hf2.out.trans hf3 (fun _ _ h => h))
  clear hd3 hf3
  go_wp2_with fail
  rw [superTs]
  refine (faultWrapNo superT _ w3).mono ?_
  rintro e w4 ⟨rfl, rfl⟩
  go_wp2
  go_ret
  exact ⟨rfl, Hd3.out, Hf3.out⟩
end Go.Proofs.YtaendhbiehknlaaGreatDoor
