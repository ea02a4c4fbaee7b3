/- The law's own first look: a write, torn (conditions: none). -/
import Derived.Test.YtbgcglojgohjdaaDta
import Derived.Outline
namespace Go.Proofs.Ytbgcglojgohjdaa
open Go.RowKit Go.Maps

theorem aw_write : (DS.new 2).write 1 (dat 97 98) = ({ DS.new 2 with op := [(1, dat 97 98)], left := -1 }, 0) := by
  simp [DS.write, DS.power, DS.new, dat_size, wrap64]
def awD : DS := { DS.new 2 with op := [(1, dat 97 98)], left := -1 }
theorem aw_read : (awD.crash [1026]).read 1 = (torn (dat 97 98) zb 2, 0) := by
  simp [awD, DS.crash, DS.read, DS.new, crashFl, crashStep, upd, opMap]
theorem strOf_ext {a b : ByteArray} (h : a.data.toList = b.data.toList) : a = b := by
  cases a; cases b; simpa using h
set_option maxRecDepth 100000 in
theorem aw_head : (torn (dat 97 98) zb 2).extract 0 3 = ⟨#[97, 97, 0]⟩ := by
  apply strOf_ext
  have h1 : (dat 97 98).data.toList = List.replicate 512 97 ++ List.replicate 512 98 := by unfold dat datN; rw [strOfNums_data, List.map_append, List.map_replicate, List.map_replicate]; rfl
  have h2 : zb.data.toList = List.replicate 1024 0 := by unfold zb; rw [strOfNums_data, List.map_replicate]; rfl
  unfold torn
  simp only [ByteArray.data_extract, ByteArray.data_append, Array.toList_extract]
  simp [List.take_append]
  rfl
theorem aw_size : (torn (dat 97 98) zb 2).size = 1024 := torn_size _ _ _ (dat_size _ _) zb_size (by omega)

set_option maxHeartbeats 1000000 in
theorem law_awake (w : World) : Calls Try.prog 8 #[] w fun e w' => e = .returned (.bool true) ∧ Below w.heap.size w w' := by
  go_enter Try.func8, Try.ntmps8
  go_wp2_with fail
  refine (ds_new 2 (by omega) (by omega)).mono ?_
  rintro e w1 ⟨x, rfl, S1, hd1, hb1, hs1⟩
  have HD1 := Lib.hid hd1; clear hd1
  have HB1 := Lib.hid hb1; clear hb1
  have HS1 := Lib.hid hs1; clear hs1
  go_wp2_with fail
  refine (law_data 97 98 _).mono ?_
  rintro e w2 ⟨rfl, hb2⟩
  have hd2 := HD1.out.below hb2
  have hbb := HB1.out.trans (hb2.mono HB1.out.size)
  have HD2 := Lib.hid hd2; clear hd2
  have HBB := Lib.hid hbb; clear hbb hb2
  go_wp2_with fail
  refine (ds_write HD2.out 1 (dat 97 98) (by rw [dat_size]; unfold maxLen; omega) (by simp [DS.new]) (by omega)).mono ?_
  rw [aw_write]
  rintro e w3 ⟨rfl, S3, hd3, hg3⟩
  have HD3 := Lib.hid hd3; clear hd3
  have HG3 := Lib.hid hg3; clear hg3
  go_wp2_with fail
  have hri : RI (w3.alloc (.cells #[.int .i64 1026] 3)) (some ⟨w3.heap.size, 0, none⟩) 1 [1026] := ⟨rfl, by omega, fun _ => ⟨_, rfl, fun j hj => by
    obtain rfl : j = 0 := by omega
    exact cell_of_row _ _ _ _ _ (0, 0) (heap_alloc_new w3 _)⟩⟩
  refine (ds_crash (HD3.out.alloc _) (by simp) hri).mono ?_
  rintro e w4 ⟨y, rfl, S4, hd4, hb4, hs4⟩
  have HD4 := Lib.hid hd4; clear hd4
  have HB4 := Lib.hid (HG3.out.below (((Below.refl _ w3).alloc (Nat.le_refl _) _).trans (hb4.mono (by simp)))); clear hb4
  clear hri hs4
  go_wp2_with fail
  refine (ds_read HD4.out 1).mono ?_
  rw [show (DS.crash { DS.new 2 with op := [(1, dat 97 98)], left := -1 } [1026]).read 1 = _ from aw_read]
  obtain ⟨s, hs⟩ : ∃ s, s = torn (dat 97 98) zb 2 := ⟨_, rfl⟩
  have h1 : s.size = 1024 := by rw [hs]; exact aw_size
  have h2 : s.extract 0 3 = ⟨#[97, 97, 0]⟩ := by rw [hs]; exact aw_head
  rw [← hs]
  have h3 : ((s.size : Int) == 1024) = true := by simp; omega
  rintro e w5 ⟨rfl, hb5⟩
  have HB5 := Lib.hid hb5; clear hb5 hs
  have hs3 := fun W => run_slice_string_h (P := Try.prog) W 9 s Try.underlying9 .i64 3 (by omega) (by omega)
  have h4 : s.extract 0 (3 : Int).toNat = ⟨#[97, 97, 0]⟩ := h2
  go_wp2_with fail
  go_ret
  refine ⟨rfl, ?_⟩
  have hk := HG3.out
  exact Below.trans HBB.out ((HB4.out.keep.to_below HBB.out.size (fun i hi => HS1.out i hi)).trans (HB5.out.mono (Nat.le_trans HBB.out.size HB4.out.keep.size)))
end Go.Proofs.Ytbgcglojgohjdaa
