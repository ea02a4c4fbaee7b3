/- 'step': a call on both sides (conditions: none). -/
import Derived.Test.YtbgcglojgohjdaaSam
import Derived.Test.YtbgcglojgohjdaaMade
namespace Go.Proofs.Ytbgcglojgohjdaa
attribute [local go_sem ↓] Go.wp_at_zero Go.wp_at_succ
open Go.RowKit Go.Maps

def zs (m : Nat) : ByteArray := strOfNums (List.replicate m 0)
theorem zs_size (m : Nat) : (zs m).size = m := by unfold zs; rw [strOfNums_size, List.length_replicate]
theorem conv_zs (m b : Nat) (w : World) (h : w.heap[b]? = some (.cells (madeCells #[.int .u8 0] m) 5 (0, 0))) :
    (convert 62 9 (.slice (some ⟨b, 0, none⟩) m m)).run Try.prog w = .ok (.string (zs m)) w := by
  refine run_convert_bytes_arg w 62 5 Try.underlying62 Try.underlying5 b 0 m m (List.replicate m 0) List.length_replicate (fun i hi => ?_) 9 Try.underlying9
  rw [cell_of_row w b (0 + i) _ _ (0, 0) h]
  simp only [madeCells, Nat.zero_add, List.getD_eq_getElem?_getD, List.getElem?_replicate, hi, if_true, Array.getElem?_map, Array.getElem?_range, Option.map_some, Option.getD_some]
  simp [Nat.mod_one, hi]
theorem mk_zs (m : Nat) (hm : m ≤ 2000) : ∀ W : World, (Instr.makeSlice 62 (.int .i64 m) (.int .i64 m)).run Try.prog W = .ok (.slice (some ⟨W.heap.size, 0, none⟩) m m) (W.alloc (.cells (madeCells #[.int .u8 0] m) 5)) :=
  fun W => run_make_row' 62 5 (.int .u8 0) 1 Try.underlying62 info_u8 rfl .i64 .i64 m (by omega) (by omega) W

section
variable {B : Nat} {w w' : World} {xd xm : Nat} {D D' : DS} {Sd Sm S' : Nat → Prop}
theorem Two.stepD (h : Two B w xd xm D Sd Sm) (hd : Dsk S' w' xd D') (g : Grow Sd S' w w') : Dsk S' w' xd D' ∧ Rfd Sm w' xm D ∧ (∀ i, S' i → ¬ Sm i) ∧ (∀ i, S' i → B ≤ i) ∧ Keep Sd w w' :=
  ⟨hd, h.m.keep g.keep (fun i hi hs => h.ap i hs hi), fun i hi hm => g.apart h.m.lt (fun i hi hs => h.ap i hs hi) i hm hi, fun i hi => (g.new i hi).elim (h.gd i) (Nat.le_trans h.bel), g.keep⟩
/-- The disk has gone ahead; the reference's follows. -/
structure Ahead (B : Nat) (w : World) (xd xm : Nat) (D' D : DS) (Sd Sm : Nat → Prop) : Prop where
  d : Dsk Sd w xd D'
  m : Rfd Sm w xm D
  ap : ∀ i, Sd i → ¬ Sm i
  gd : ∀ i, Sd i → B ≤ i
  gm : ∀ i, Sm i → B ≤ i
  bel : B ≤ w.heap.size
theorem Two.ahead (h : Two B w xd xm D Sd Sm) (hd : Dsk S' w' xd D') (g : Grow Sd S' w w') : Ahead B w' xd xm D' D S' Sm :=
  ⟨hd, h.m.keep g.keep (fun i hi hs => h.ap i hs hi), fun i hi hm => g.apart h.m.lt (fun i hi hs => h.ap i hs hi) i hm hi, fun i hi => (g.new i hi).elim (h.gd i) (Nat.le_trans h.bel), h.gm, Nat.le_trans h.bel g.keep.size⟩
theorem Ahead.below (h : Ahead B w xd xm D' D Sd Sm) (hb : Below w.heap.size w w') : Ahead B w' xd xm D' D Sd Sm := ⟨h.d.below hb, h.m.below hb, h.ap, h.gd, h.gm, Nat.le_trans h.bel hb.size⟩
theorem Ahead.drew (h : Ahead B w xd xm D' D Sd Sm) : Ahead B w.drew xd xm D' D Sd Sm := h.below (Below.drew (Below.refl _ _))
theorem Ahead.two (h : Ahead B w xd xm D' D Sd Sm) (hm : Rfd S' w' xm D') (g : Grow Sm S' w w') : Two B w' xd xm D' Sd S' :=
  ⟨h.d.keep g.keep (fun i hi hs => h.ap i hi hs), hm, g.apart h.d.lt h.ap, h.gd, fun i hi => (g.new i hi).elim (h.gm i) (Nat.le_trans h.bel), Nat.le_trans h.bel g.keep.size⟩

/-- What a step leaves. -/
def Stepped (B n : Nat) (w : World) (e : Ending) (w' : World) : Prop := ∃ (xd xm : Nat) (D' : DS) (Sd Sm : Nat → Prop), e = .returned (.tuple #[Pa xd, Pa xm, .bool true]) ∧ Two B w' xd xm D' Sd Sm ∧ D'.op.length ≤ n + 1 ∧ Below B w w'

theorem crash_two {w0 w2 w4 : World} {yd ym : Nat} {S2 S4 : Nat → Prop} (h0 : B ≤ w0.heap.size) (h2 : Below B w w2) (hz : w0.heap.size ≤ w2.heap.size) (hd : Dsk S2 w2 yd D) (hs : ∀ i, S2 i → B ≤ i) (hm : Rfd S4 w4 ym D) (hb : Below w2.heap.size w2 w4) (hg : ∀ i, S4 i → w2.heap.size ≤ i) : Two B w4 yd ym D S2 S4 ∧ Below B w w4 :=
  ⟨⟨hd.below hb, hm, fun i hi hs => (by have := hd.lt i hi; have := hg i hs; omega), hs, fun i hi => Nat.le_trans (Nat.le_trans h0 hz) (hg i hi), Nat.le_trans (Nat.le_trans h0 hz) hb.size⟩, h2.trans (hb.mono (Nat.le_trans h0 hz))⟩
theorem eq_self_int (x : Int) : (x == x) = true := by simp

set_option maxHeartbeats 8000000 in
set_option maxRecDepth 100000 in
theorem law_step (h : Two B w xd xm D Sd Sm) (hop : D.op.length ≤ 100000) {c : CallS} {A : Option Addr} {cap : Nat} (hf : RI w A c.fates.length c.fates) (r0 : i64r c.kind) (r1 : i64r c.n) (r2 : i64r c.cut) :
    Calls Try.prog 22 #[Pa xd, Pa xm, .agg #[.int .i64 c.kind, .int .i64 c.n, .int .i64 c.cut, .int .u8 c.a, .int .u8 c.b, .slice A c.fates.length cap]] w (Stepped B D.op.length w) := by
  have HT := Lib.hid h; clear h
  have HRI := Lib.hid hf; clear hf
  have HR1 := Lib.hid r1; clear r1
  have HR2 := Lib.hid r2; clear r2 r0
  by_cases hk0 : c.kind = 0
  · rw [hk0]
    clear hk0
    go_enter Try.func22, Try.ntmps22
    go_wp2_with fail
    have hbx := heap_alloc_new w (.cells #[.int .i64 0, .int .i64 c.n, .int .i64 c.cut, .int .u8 c.a, .int .u8 c.b, .slice A c.fates.length cap] 27)
    have hwb : Below w.heap.size w (w.alloc (.cells #[.int .i64 0, .int .i64 c.n, .int .i64 c.cut, .int .u8 c.a, .int .u8 c.b, .slice A c.fates.length cap] 27)) := (Below.refl _ _).alloc (Nat.le_refl _) _
    have HT0 := Lib.hid (HT.out.below hwb)
    have HB0 : Hid (Below B w (w.alloc (.cells #[.int .i64 0, .int .i64 c.n, .int .i64 c.cut, .int .u8 c.a, .int .u8 c.b, .slice A c.fates.length cap] 27))) := Lib.hid (hwb.mono HT.out.bel)
    have HF0 := Lib.hid (HRI.out.below hwb)
    have HNX : Hid (∀ k, Sd k ∨ Sm k → k ≠ w.heap.size) := Lib.hid (fun k hk e => by
      rcases hk with hk | hk
      · have := HT.out.d.lt k hk; omega
      · have := HT.out.m.lt k hk; omega)
    have HZW : Hid ((w.alloc (.cells #[.int .i64 0, .int .i64 c.n, .int .i64 c.cut, .int .u8 c.a, .int .u8 c.b, .slice A c.fates.length cap] 27)).heap.size = w.heap.size + 1) := Lib.hid (by simp)
    clear hwb HT HRI
    generalize w.alloc (.cells #[.int .i64 0, .int .i64 c.n, .int .i64 c.cut, .int .u8 c.a, .int .u8 c.b, .slice A c.fates.length cap] 27) = w0 at *
    obtain ⟨vb, hvb⟩ : ∃ vb, w.heap.size = vb := ⟨_, rfl⟩
    rw [hvb] at hbx HNX HZW ⊢
    clear hvb
    have d1 : w0.cell? ⟨vb, 1, none⟩ = some (.int .i64 c.n) := cell_of_row _ _ _ _ _ (0, 0) hbx
    have d3 : w0.cell? ⟨vb, 3, none⟩ = some (.int .u8 c.a) := cell_of_row _ _ _ _ _ (0, 0) hbx
    have d4 : w0.cell? ⟨vb, 4, none⟩ = some (.int .u8 c.b) := cell_of_row _ _ _ _ _ (0, 0) hbx
    have d5 : w0.cell? ⟨vb, 5, none⟩ = some (.slice A c.fates.length cap) := cell_of_row _ _ _ _ _ (0, 0) hbx
    have d2 : w0.cell? ⟨vb, 2, none⟩ = some (.int .i64 c.cut) := cell_of_row _ _ _ _ _ (0, 0) hbx
    clear hbx
    obtain ⟨D2, e2, hq⟩ : ∃ D2 e2, D.write c.n (dat c.a c.b) = (D2, e2) := ⟨_, _, rfl⟩
    have hop2 : D2.op.length ≤ D.op.length + 1 := by have := write_op D c.n (dat c.a c.b); rw [hq] at this; exact this
    have HQ := Lib.hid hq; clear hq
    go_region_held3 (fun w' => w'.cell? ⟨vb, 1, none⟩ = some (.int .i64 c.n) ∧ w'.cell? ⟨vb, 3, none⟩ = some (.int .u8 c.a) ∧ w'.cell? ⟨vb, 4, none⟩ = some (.int .u8 c.b)) (go_keep)
      (first
        | (go_at_call 31; refine (rf_write (by first | exact HT3.out.m | exact HT3.out.m.drew) c.n (dat c.a c.b) (by rw [dat_size]; unfold maxLen; omega) (by omega) HR1.out).mono ?_; rw [HQ.out]; rintro e w4 ⟨rfl, S4, hm4, hg4⟩; have HT4 := Lib.hid (Ahead.two (by first | exact HT3.out | exact HT3.out.drew) hm4 hg4); have HB4 : Hid (Below B w w4) := Lib.hid (Below.trans (by first | exact HB3.out | exact HB3.out.drew : Below B w _) (hg4.keep.to_below HT3.out.bel HT3.out.gm)); have k41 : w4.cell? ⟨vb, 1, none⟩ = some (.int .i64 c.n) := hg4.keep.cell k31 (fun h => HNX.out _ (.inr h) rfl); have k43 : w4.cell? ⟨vb, 3, none⟩ = some (.int .u8 c.a) := hg4.keep.cell k33 (fun h => HNX.out _ (.inr h) rfl); have k44 : w4.cell? ⟨vb, 4, none⟩ = some (.int .u8 c.b) := hg4.keep.cell k34 (fun h => HNX.out _ (.inr h) rfl); clear hm4 hg4)
        | (go_at_call 13; refine (law_data c.a c.b _).mono ?_; rintro e w3 ⟨rfl, hb3⟩; have HT3 : Hid (Ahead B w3 xd xm D2 D S2 Sm) := Lib.hid (by first | exact HT2.out.below hb3 | exact HT2.out.drew.below hb3); have HB3 : Hid (Below B w w3) := Lib.hid (by first | exact HB2.out.trans (hb3.mono HT2.out.bel) | exact HB2.out.drew.trans (hb3.mono HT2.out.bel)); have k31 : w3.cell? ⟨vb, 1, none⟩ = some (.int .i64 c.n) := cell_later hb3 k21; have k33 : w3.cell? ⟨vb, 3, none⟩ = some (.int .u8 c.a) := cell_later hb3 k23; have k34 : w3.cell? ⟨vb, 4, none⟩ = some (.int .u8 c.b) := cell_later hb3 k24; clear hb3)
        | (go_at_call 12; refine (ds_write (by first | exact HT1.out.d | exact HT1.out.d.drew) c.n (dat c.a c.b) (by rw [dat_size]; unfold maxLen; omega) (by omega) HR1.out).mono ?_; rw [HQ.out]; rintro e w2 ⟨rfl, S2, hd2, hg2⟩; have HT2 := Lib.hid (Two.ahead (by first | exact HT1.out | exact HT1.out.drew) hd2 hg2); have HB2 : Hid (Below B w w2) := Lib.hid (Below.trans (by first | exact HB1.out | exact HB1.out.drew : Below B w _) (hg2.keep.to_below HT1.out.bel HT1.out.gd)); have k21 : w2.cell? ⟨vb, 1, none⟩ = some (.int .i64 c.n) := hg2.keep.cell k11 (fun h => HNX.out _ (.inl h) rfl); have k23 : w2.cell? ⟨vb, 3, none⟩ = some (.int .u8 c.a) := hg2.keep.cell k13 (fun h => HNX.out _ (.inl h) rfl); have k24 : w2.cell? ⟨vb, 4, none⟩ = some (.int .u8 c.b) := hg2.keep.cell k14 (fun h => HNX.out _ (.inl h) rfl); clear hd2 hg2)
        | (go_at_call 13; refine (law_data c.a c.b _).mono ?_; rintro e w1 ⟨rfl, hb1⟩; have HT1 : Hid (Two B w1 xd xm D Sd Sm) := Lib.hid (by first | exact HT0.out.below hb1 | exact HT0.out.drew.below hb1); have HB1 : Hid (Below B w w1) := Lib.hid (by first | exact HB0.out.trans (hb1.mono HT0.out.bel) | exact HB0.out.drew.trans (hb1.mono HT0.out.bel)); have k11 : w1.cell? ⟨vb, 1, none⟩ = some (.int .i64 c.n) := cell_later hb1 d1; have k13 : w1.cell? ⟨vb, 3, none⟩ = some (.int .u8 c.a) := cell_later hb1 d3; have k14 : w1.cell? ⟨vb, 4, none⟩ = some (.int .u8 c.b) := cell_later hb1 d4; clear hb1))
    go_wp2_with fail
    go_ret3
    exact ⟨xd, xm, D2, S2, S4, rfl, HT4.out, hop2, HB4.out⟩
  · by_cases hk1 : c.kind = 1
    · rw [hk1]
      clear hk0 hk1
      go_enter Try.func22, Try.ntmps22
      go_wp2_with fail
      have hbx := heap_alloc_new w (.cells #[.int .i64 1, .int .i64 c.n, .int .i64 c.cut, .int .u8 c.a, .int .u8 c.b, .slice A c.fates.length cap] 27)
      have hwb : Below w.heap.size w (w.alloc (.cells #[.int .i64 1, .int .i64 c.n, .int .i64 c.cut, .int .u8 c.a, .int .u8 c.b, .slice A c.fates.length cap] 27)) := (Below.refl _ _).alloc (Nat.le_refl _) _
      have HT0 := Lib.hid (HT.out.below hwb)
      have HB0 : Hid (Below B w (w.alloc (.cells #[.int .i64 1, .int .i64 c.n, .int .i64 c.cut, .int .u8 c.a, .int .u8 c.b, .slice A c.fates.length cap] 27))) := Lib.hid (hwb.mono HT.out.bel)
      have HF0 := Lib.hid (HRI.out.below hwb)
      have HNX : Hid (∀ k, Sd k ∨ Sm k → k ≠ w.heap.size) := Lib.hid (fun k hk e => by
        rcases hk with hk | hk
        · have := HT.out.d.lt k hk; omega
        · have := HT.out.m.lt k hk; omega)
      have HZW : Hid ((w.alloc (.cells #[.int .i64 1, .int .i64 c.n, .int .i64 c.cut, .int .u8 c.a, .int .u8 c.b, .slice A c.fates.length cap] 27)).heap.size = w.heap.size + 1) := Lib.hid (by simp)
      clear hwb HT HRI
      generalize w.alloc (.cells #[.int .i64 1, .int .i64 c.n, .int .i64 c.cut, .int .u8 c.a, .int .u8 c.b, .slice A c.fates.length cap] 27) = w0 at *
      obtain ⟨vb, hvb⟩ : ∃ vb, w.heap.size = vb := ⟨_, rfl⟩
      rw [hvb] at hbx HNX HZW ⊢
      clear hvb
      have d1 : w0.cell? ⟨vb, 1, none⟩ = some (.int .i64 c.n) := cell_of_row _ _ _ _ _ (0, 0) hbx
      have d3 : w0.cell? ⟨vb, 3, none⟩ = some (.int .u8 c.a) := cell_of_row _ _ _ _ _ (0, 0) hbx
      have d4 : w0.cell? ⟨vb, 4, none⟩ = some (.int .u8 c.b) := cell_of_row _ _ _ _ _ (0, 0) hbx
      have d5 : w0.cell? ⟨vb, 5, none⟩ = some (.slice A c.fates.length cap) := cell_of_row _ _ _ _ _ (0, 0) hbx
      have d2 : w0.cell? ⟨vb, 2, none⟩ = some (.int .i64 c.cut) := cell_of_row _ _ _ _ _ (0, 0) hbx
      clear hbx
      obtain ⟨D2, e2, hq⟩ : ∃ D2 e2, D.flush = (D2, e2) := ⟨_, _, rfl⟩
      have hop2 : D2.op.length ≤ D.op.length + 1 := by have := flush_op D; rw [hq] at this; exact Nat.le_succ_of_le this
      have HQ := Lib.hid hq; clear hq
      clear d1 d2 d3 d4 d5
      go_wp2_with fail
      refine (ds_flush HT0.out.d).mono ?_
      rw [HQ.out]
      rintro e w2 ⟨rfl, S2, hd2, hg2⟩
      have HT2 := Lib.hid (Two.ahead HT0.out hd2 hg2)
      have HB2 : Hid (Below B w w2) := Lib.hid (Below.trans HB0.out (hg2.keep.to_below HT0.out.bel HT0.out.gd))
      clear hd2 hg2
      go_wp2_with fail
      refine (rf_flush HT2.out.m (by omega)).mono ?_
      rw [HQ.out]
      rintro e w4 ⟨rfl, S4, hm4, hg4⟩
      have HT4 := Lib.hid (Ahead.two HT2.out hm4 hg4)
      have HB4 : Hid (Below B w w4) := Lib.hid (Below.trans HB2.out (hg4.keep.to_below HT2.out.bel HT2.out.gm))
      clear hm4 hg4
      go_wp2_with fail
      go_ret3
      exact ⟨xd, xm, D2, S2, S4, rfl, HT4.out, hop2, HB4.out⟩
    · by_cases hk2 : c.kind = 2
      · rw [hk2]
        clear hk0 hk1 hk2
        go_enter Try.func22, Try.ntmps22
        go_wp2_with fail
        have hbx := heap_alloc_new w (.cells #[.int .i64 2, .int .i64 c.n, .int .i64 c.cut, .int .u8 c.a, .int .u8 c.b, .slice A c.fates.length cap] 27)
        have hwb : Below w.heap.size w (w.alloc (.cells #[.int .i64 2, .int .i64 c.n, .int .i64 c.cut, .int .u8 c.a, .int .u8 c.b, .slice A c.fates.length cap] 27)) := (Below.refl _ _).alloc (Nat.le_refl _) _
        have HT0 := Lib.hid (HT.out.below hwb)
        have HB0 : Hid (Below B w (w.alloc (.cells #[.int .i64 2, .int .i64 c.n, .int .i64 c.cut, .int .u8 c.a, .int .u8 c.b, .slice A c.fates.length cap] 27))) := Lib.hid (hwb.mono HT.out.bel)
        have HF0 := Lib.hid (HRI.out.below hwb)
        have HNX : Hid (∀ k, Sd k ∨ Sm k → k ≠ w.heap.size) := Lib.hid (fun k hk e => by
          rcases hk with hk | hk
          · have := HT.out.d.lt k hk; omega
          · have := HT.out.m.lt k hk; omega)
        have HZW : Hid ((w.alloc (.cells #[.int .i64 2, .int .i64 c.n, .int .i64 c.cut, .int .u8 c.a, .int .u8 c.b, .slice A c.fates.length cap] 27)).heap.size = w.heap.size + 1) := Lib.hid (by simp)
        clear hwb HT HRI
        generalize w.alloc (.cells #[.int .i64 2, .int .i64 c.n, .int .i64 c.cut, .int .u8 c.a, .int .u8 c.b, .slice A c.fates.length cap] 27) = w0 at *
        obtain ⟨vb, hvb⟩ : ∃ vb, w.heap.size = vb := ⟨_, rfl⟩
        rw [hvb] at hbx HNX HZW ⊢
        clear hvb
        have d1 : w0.cell? ⟨vb, 1, none⟩ = some (.int .i64 c.n) := cell_of_row _ _ _ _ _ (0, 0) hbx
        have d3 : w0.cell? ⟨vb, 3, none⟩ = some (.int .u8 c.a) := cell_of_row _ _ _ _ _ (0, 0) hbx
        have d4 : w0.cell? ⟨vb, 4, none⟩ = some (.int .u8 c.b) := cell_of_row _ _ _ _ _ (0, 0) hbx
        have d5 : w0.cell? ⟨vb, 5, none⟩ = some (.slice A c.fates.length cap) := cell_of_row _ _ _ _ _ (0, 0) hbx
        have d2 : w0.cell? ⟨vb, 2, none⟩ = some (.int .i64 c.cut) := cell_of_row _ _ _ _ _ (0, 0) hbx
        clear hbx
        have e1 := d1
        clear d2 d3 d4 d5
        go_wp2_with fail
        refine (ds_read HT0.out.d c.n).mono ?_
        rintro e w2 ⟨rfl, hb2⟩
        have HT2 := Lib.hid (HT0.out.below hb2)
        have HB2 : Hid (Below B w w2) := Lib.hid (Below.trans HB0.out (hb2.mono HT0.out.bel))
        have f1 : w2.cell? ⟨vb, 1, none⟩ = some (.int .i64 c.n) := cell_later hb2 d1
        clear hb2 e1
        go_wp2_with fail
        refine (rf_read HT2.out.m c.n (by omega)).mono ?_
        rintro e w' ⟨rfl, rfl⟩
        go_wp2_with fail
        go_ret3
        exact ⟨xd, xm, D, Sd, Sm, rfl, HT2.out, by omega, HB2.out⟩
      · by_cases hk3 : c.kind = 3
        · rw [hk3]
          clear hk0 hk1 hk2 hk3
          go_enter Try.func22, Try.ntmps22
          go_wp2_with fail
          have hbx := heap_alloc_new w (.cells #[.int .i64 3, .int .i64 c.n, .int .i64 c.cut, .int .u8 c.a, .int .u8 c.b, .slice A c.fates.length cap] 27)
          have hwb : Below w.heap.size w (w.alloc (.cells #[.int .i64 3, .int .i64 c.n, .int .i64 c.cut, .int .u8 c.a, .int .u8 c.b, .slice A c.fates.length cap] 27)) := (Below.refl _ _).alloc (Nat.le_refl _) _
          have HT0 := Lib.hid (HT.out.below hwb)
          have HB0 : Hid (Below B w (w.alloc (.cells #[.int .i64 3, .int .i64 c.n, .int .i64 c.cut, .int .u8 c.a, .int .u8 c.b, .slice A c.fates.length cap] 27))) := Lib.hid (hwb.mono HT.out.bel)
          have HF0 := Lib.hid (HRI.out.below hwb)
          have HNX : Hid (∀ k, Sd k ∨ Sm k → k ≠ w.heap.size) := Lib.hid (fun k hk e => by
            rcases hk with hk | hk
            · have := HT.out.d.lt k hk; omega
            · have := HT.out.m.lt k hk; omega)
          have HZW : Hid ((w.alloc (.cells #[.int .i64 3, .int .i64 c.n, .int .i64 c.cut, .int .u8 c.a, .int .u8 c.b, .slice A c.fates.length cap] 27)).heap.size = w.heap.size + 1) := Lib.hid (by simp)
          clear hwb HT HRI
          generalize w.alloc (.cells #[.int .i64 3, .int .i64 c.n, .int .i64 c.cut, .int .u8 c.a, .int .u8 c.b, .slice A c.fates.length cap] 27) = w0 at *
          obtain ⟨vb, hvb⟩ : ∃ vb, w.heap.size = vb := ⟨_, rfl⟩
          rw [hvb] at hbx HNX HZW ⊢
          clear hvb
          have d1 : w0.cell? ⟨vb, 1, none⟩ = some (.int .i64 c.n) := cell_of_row _ _ _ _ _ (0, 0) hbx
          have d3 : w0.cell? ⟨vb, 3, none⟩ = some (.int .u8 c.a) := cell_of_row _ _ _ _ _ (0, 0) hbx
          have d4 : w0.cell? ⟨vb, 4, none⟩ = some (.int .u8 c.b) := cell_of_row _ _ _ _ _ (0, 0) hbx
          have d5 : w0.cell? ⟨vb, 5, none⟩ = some (.slice A c.fates.length cap) := cell_of_row _ _ _ _ _ (0, 0) hbx
          have d2 : w0.cell? ⟨vb, 2, none⟩ = some (.int .i64 c.cut) := cell_of_row _ _ _ _ _ (0, 0) hbx
          clear hbx
          clear d2 d3 d4 d5
          go_wp2_with fail
          refine (ds_setpower HT0.out.d c.n).mono ?_
          rintro e w2 ⟨rfl, S2, hd2, hg2⟩
          have HT2 := Lib.hid (Two.ahead HT0.out hd2 hg2)
          have HB2 : Hid (Below B w w2) := Lib.hid (Below.trans HB0.out (hg2.keep.to_below HT0.out.bel HT0.out.gd))
          have f1 : w2.cell? ⟨vb, 1, none⟩ = some (.int .i64 c.n) := hg2.keep.cell d1 (fun h => HNX.out _ (.inl h) rfl)
          clear hd2 hg2
          go_wp2_with fail
          refine (rf_power HT2.out.m c.n HR1.out).mono ?_
          rintro e w4 ⟨rfl, S4, hm4, hg4⟩
          have HT4 := Lib.hid (Ahead.two HT2.out hm4 hg4)
          have HB4 : Hid (Below B w w4) := Lib.hid (Below.trans HB2.out (hg4.keep.to_below HT2.out.bel HT2.out.gm))
          clear hm4 hg4
          go_wp2_with fail
          go_ret3
          exact ⟨xd, xm, D.setPower c.n, S2, S4, rfl, HT4.out, by unfold DS.setPower; split <;> simp, HB4.out⟩
        · by_cases hk4 : c.kind = 4
          · rw [hk4]
            clear hk0 hk1 hk2 hk3 hk4
            go_enter Try.func22, Try.ntmps22
            go_wp2_with fail
            have hbx := heap_alloc_new w (.cells #[.int .i64 4, .int .i64 c.n, .int .i64 c.cut, .int .u8 c.a, .int .u8 c.b, .slice A c.fates.length cap] 27)
            have hwb : Below w.heap.size w (w.alloc (.cells #[.int .i64 4, .int .i64 c.n, .int .i64 c.cut, .int .u8 c.a, .int .u8 c.b, .slice A c.fates.length cap] 27)) := (Below.refl _ _).alloc (Nat.le_refl _) _
            have HT0 := Lib.hid (HT.out.below hwb)
            have HB0 : Hid (Below B w (w.alloc (.cells #[.int .i64 4, .int .i64 c.n, .int .i64 c.cut, .int .u8 c.a, .int .u8 c.b, .slice A c.fates.length cap] 27))) := Lib.hid (hwb.mono HT.out.bel)
            have HF0 := Lib.hid (HRI.out.below hwb)
            have HNX : Hid (∀ k, Sd k ∨ Sm k → k ≠ w.heap.size) := Lib.hid (fun k hk e => by
              rcases hk with hk | hk
              · have := HT.out.d.lt k hk; omega
              · have := HT.out.m.lt k hk; omega)
            have HZW : Hid ((w.alloc (.cells #[.int .i64 4, .int .i64 c.n, .int .i64 c.cut, .int .u8 c.a, .int .u8 c.b, .slice A c.fates.length cap] 27)).heap.size = w.heap.size + 1) := Lib.hid (by simp)
            clear hwb HT HRI
            generalize w.alloc (.cells #[.int .i64 4, .int .i64 c.n, .int .i64 c.cut, .int .u8 c.a, .int .u8 c.b, .slice A c.fates.length cap] 27) = w0 at *
            obtain ⟨vb, hvb⟩ : ∃ vb, w.heap.size = vb := ⟨_, rfl⟩
            rw [hvb] at hbx HNX HZW ⊢
            clear hvb
            have d1 : w0.cell? ⟨vb, 1, none⟩ = some (.int .i64 c.n) := cell_of_row _ _ _ _ _ (0, 0) hbx
            have d3 : w0.cell? ⟨vb, 3, none⟩ = some (.int .u8 c.a) := cell_of_row _ _ _ _ _ (0, 0) hbx
            have d4 : w0.cell? ⟨vb, 4, none⟩ = some (.int .u8 c.b) := cell_of_row _ _ _ _ _ (0, 0) hbx
            have d5 : w0.cell? ⟨vb, 5, none⟩ = some (.slice A c.fates.length cap) := cell_of_row _ _ _ _ _ (0, 0) hbx
            have d2 : w0.cell? ⟨vb, 2, none⟩ = some (.int .i64 c.cut) := cell_of_row _ _ _ _ _ (0, 0) hbx
            clear hbx
            clear d1 d2 d3 d4
            go_region_held3 (fun w' => w'.cell? ⟨vb, 5, none⟩ = some (.slice A c.fates.length cap)) (go_keep)
              (first
                | (go_at_call 35; refine (rf_crash (by first | exact HM2.out | exact HM2.out.drew) (by omega) (by first | exact HF2.out | exact HF2.out.below (Below.drew (Below.refl _ _)))).mono ?_; rintro e w4 ⟨ym, rfl, S4, hm4, hb4, hs4⟩; have HY4 : Hid (Two B w4 yd ym (D.crash c.fates) S2 S4 ∧ Below B w w4) := Lib.hid (by first | exact crash_two HT0.out.bel HB2.out HZ2.out HD2.out HS2.out hm4 hb4 hs4 | exact crash_two HT0.out.bel HB2.out.drew HZ2.out HD2.out.drew HS2.out hm4 hb4 hs4); have k45 : w4.cell? ⟨vb, 5, none⟩ = some (.slice A c.fates.length cap) := cell_later hb4 k25; clear hm4 hb4 hs4)
                | (go_at_call 14; refine (ds_crash (by first | exact HT0.out.d | exact HT0.out.d.drew) (by omega) (by first | exact HF0.out | exact HF0.out.below (Below.drew (Below.refl _ _)))).mono ?_; rintro e w2 ⟨yd, rfl, S2, hd2, hb2, hs2⟩; have HD2 := Lib.hid hd2; have HM2 : Hid (Rfd Sm w2 xm D) := Lib.hid (by first | exact HT0.out.m.below hb2 | exact HT0.out.m.drew.below hb2); have HF2 : Hid (RI w2 A c.fates.length c.fates) := Lib.hid (by first | exact HF0.out.below hb2 | exact (HF0.out.below (Below.drew (Below.refl _ _))).below hb2); have HS2 : Hid (∀ i, S2 i → B ≤ i) := Lib.hid (fun i hi => Nat.le_trans HT0.out.bel (hs2 i hi)); have HZ2 : Hid (w0.heap.size ≤ w2.heap.size) := Lib.hid hb2.size; have HB2 : Hid (Below B w w2) := Lib.hid (by first | exact HB0.out.trans (hb2.mono HT0.out.bel) | exact HB0.out.drew.trans (hb2.mono HT0.out.bel)); have k25 : w2.cell? ⟨vb, 5, none⟩ = some (.slice A c.fates.length cap) := cell_later hb2 d5; clear hd2 hb2 hs2))
            go_wp2_with fail
            go_ret3
            exact ⟨yd, ym, D.crash c.fates, S2, S4, rfl, HY4.out.1, by simp [DS.crash, DS.new], HY4.out.2⟩
          · by_cases hk5 : c.kind = 5
            · rw [hk5]
              clear hk0 hk1 hk2 hk3 hk4 hk5
              go_enter Try.func22, Try.ntmps22
              go_wp2_with fail
              have hbx := heap_alloc_new w (.cells #[.int .i64 5, .int .i64 c.n, .int .i64 c.cut, .int .u8 c.a, .int .u8 c.b, .slice A c.fates.length cap] 27)
              have hwb : Below w.heap.size w (w.alloc (.cells #[.int .i64 5, .int .i64 c.n, .int .i64 c.cut, .int .u8 c.a, .int .u8 c.b, .slice A c.fates.length cap] 27)) := (Below.refl _ _).alloc (Nat.le_refl _) _
              have HT0 := Lib.hid (HT.out.below hwb)
              have HB0 : Hid (Below B w (w.alloc (.cells #[.int .i64 5, .int .i64 c.n, .int .i64 c.cut, .int .u8 c.a, .int .u8 c.b, .slice A c.fates.length cap] 27))) := Lib.hid (hwb.mono HT.out.bel)
              have HF0 := Lib.hid (HRI.out.below hwb)
              have HNX : Hid (∀ k, Sd k ∨ Sm k → k ≠ w.heap.size) := Lib.hid (fun k hk e => by
                rcases hk with hk | hk
                · have := HT.out.d.lt k hk; omega
                · have := HT.out.m.lt k hk; omega)
              have HZW : Hid ((w.alloc (.cells #[.int .i64 5, .int .i64 c.n, .int .i64 c.cut, .int .u8 c.a, .int .u8 c.b, .slice A c.fates.length cap] 27)).heap.size = w.heap.size + 1) := Lib.hid (by simp)
              clear hwb HT HRI
              generalize w.alloc (.cells #[.int .i64 5, .int .i64 c.n, .int .i64 c.cut, .int .u8 c.a, .int .u8 c.b, .slice A c.fates.length cap] 27) = w0 at *
              obtain ⟨vb, hvb⟩ : ∃ vb, w.heap.size = vb := ⟨_, rfl⟩
              rw [hvb] at hbx HNX HZW ⊢
              clear hvb
              have d1 : w0.cell? ⟨vb, 1, none⟩ = some (.int .i64 c.n) := cell_of_row _ _ _ _ _ (0, 0) hbx
              have d3 : w0.cell? ⟨vb, 3, none⟩ = some (.int .u8 c.a) := cell_of_row _ _ _ _ _ (0, 0) hbx
              have d4 : w0.cell? ⟨vb, 4, none⟩ = some (.int .u8 c.b) := cell_of_row _ _ _ _ _ (0, 0) hbx
              have d5 : w0.cell? ⟨vb, 5, none⟩ = some (.slice A c.fates.length cap) := cell_of_row _ _ _ _ _ (0, 0) hbx
              have d2 : w0.cell? ⟨vb, 2, none⟩ = some (.int .i64 c.cut) := cell_of_row _ _ _ _ _ (0, 0) hbx
              clear hbx
              clear d1 d2 d3 d4 d5
              go_wp2_with fail
              refine (ds_copy HT0.out.d (by omega)).mono ?_
              rintro e w2 ⟨yd, rfl, S2, hd2, hb2, hs2⟩
              have HD2 := Lib.hid hd2; clear hd2
              have HM2 := Lib.hid (HT0.out.m.below hb2)
              have HS2 : Hid (∀ i, S2 i → B ≤ i) := Lib.hid (fun i hi => Nat.le_trans HT0.out.bel (hs2 i hi))
              have HZ2 : Hid (w0.heap.size ≤ w2.heap.size) := Lib.hid hb2.size
              have HB2 : Hid (Below B w w2) := Lib.hid (Below.trans HB0.out (hb2.mono HT0.out.bel))
              clear hb2 hs2
              go_wp2_with fail
              refine (rf_copy HM2.out (by omega)).mono ?_
              rintro e w4 ⟨ym, rfl, S4, hm4, hb4, hs4⟩
              have HT4 : Hid (Two B w4 yd ym D S2 S4) := Lib.hid (by
                have hbel := HT0.out.bel
                have hsz := HB2.out.size
                exact ⟨HD2.out.below hb4, hm4, fun i hi hs => (by have := HD2.out.lt i hi; have := hs4 i hs; omega), HS2.out, fun i hi => Nat.le_trans (Nat.le_trans HT0.out.bel (HZ2.out)) (hs4 i hi), Nat.le_trans (Nat.le_trans HT0.out.bel HZ2.out) hb4.size⟩)
              have HB4 : Hid (Below B w w4) := Lib.hid (Below.trans HB2.out (hb4.mono (Nat.le_trans HT0.out.bel HZ2.out)))
              clear hm4 hb4 hs4
              go_wp2_with fail
              go_ret3
              exact ⟨yd, ym, D, S2, S4, rfl, HT4.out, by omega, HB4.out⟩
            · have hb0 : (c.kind == 0) = false := by simpa using hk0
              have hb1 : (c.kind == 1) = false := by simpa using hk1
              have hb2 : (c.kind == 2) = false := by simpa using hk2
              have hb3 : (c.kind == 3) = false := by simpa using hk3
              have hb4 : (c.kind == 4) = false := by simpa using hk4
              have hb5 : (c.kind == 5) = false := by simpa using hk5
              clear hk0 hk1 hk2 hk3 hk4 hk5
              by_cases hc0 : c.cut < 0
              · have hc1 : ¬ 2000 < c.cut := by omega
                have hmk : ∀ W : World, (Instr.makeSlice 62 (.int .i64 0) (.int .i64 0)).run Try.prog W = .ok (.slice (some ⟨W.heap.size, 0, none⟩) 0 0) (W.alloc (.cells (madeCells #[.int .u8 0] 0) 5)) := mk_zs 0 (by omega)
                go_enter Try.func22, Try.ntmps22
                go_wp2_with fail
                have hbx := heap_alloc_new w (.cells #[.int .i64 c.kind, .int .i64 c.n, .int .i64 c.cut, .int .u8 c.a, .int .u8 c.b, .slice A c.fates.length cap] 27)
                have hwb : Below w.heap.size w (w.alloc (.cells #[.int .i64 c.kind, .int .i64 c.n, .int .i64 c.cut, .int .u8 c.a, .int .u8 c.b, .slice A c.fates.length cap] 27)) := (Below.refl _ _).alloc (Nat.le_refl _) _
                have HT0 := Lib.hid (HT.out.below hwb)
                have HB0 : Hid (Below B w (w.alloc (.cells #[.int .i64 c.kind, .int .i64 c.n, .int .i64 c.cut, .int .u8 c.a, .int .u8 c.b, .slice A c.fates.length cap] 27))) := Lib.hid (hwb.mono HT.out.bel)
                have HF0 := Lib.hid (HRI.out.below hwb)
                have HNX : Hid (∀ k, Sd k ∨ Sm k → k ≠ w.heap.size) := Lib.hid (fun k hk e => by
                  rcases hk with hk | hk
                  · have := HT.out.d.lt k hk; omega
                  · have := HT.out.m.lt k hk; omega)
                have HZW : Hid ((w.alloc (.cells #[.int .i64 c.kind, .int .i64 c.n, .int .i64 c.cut, .int .u8 c.a, .int .u8 c.b, .slice A c.fates.length cap] 27)).heap.size = w.heap.size + 1) := Lib.hid (by simp)
                clear hwb HT HRI
                generalize w.alloc (.cells #[.int .i64 c.kind, .int .i64 c.n, .int .i64 c.cut, .int .u8 c.a, .int .u8 c.b, .slice A c.fates.length cap] 27) = w0 at *
                obtain ⟨vb, hvb⟩ : ∃ vb, w.heap.size = vb := ⟨_, rfl⟩
                rw [hvb] at hbx HNX HZW ⊢
                clear hvb
                have d1 : w0.cell? ⟨vb, 1, none⟩ = some (.int .i64 c.n) := cell_of_row _ _ _ _ _ (0, 0) hbx
                have d3 : w0.cell? ⟨vb, 3, none⟩ = some (.int .u8 c.a) := cell_of_row _ _ _ _ _ (0, 0) hbx
                have d4 : w0.cell? ⟨vb, 4, none⟩ = some (.int .u8 c.b) := cell_of_row _ _ _ _ _ (0, 0) hbx
                have d5 : w0.cell? ⟨vb, 5, none⟩ = some (.slice A c.fates.length cap) := cell_of_row _ _ _ _ _ (0, 0) hbx
                have d2 : w0.cell? ⟨vb, 2, none⟩ = some (.int .i64 c.cut) := cell_of_row _ _ _ _ _ (0, 0) hbx
                clear hbx
                clear d3 d4 d5
                have hcv := conv_zs 0 (vb + 1) (w0.alloc (.cells (madeCells #[.int .u8 0] 0) 5)) (by rw [← HZW.out]; exact heap_alloc_new w0 _)
                rw [hcv]
                simp only [Result.andThen]
                rw [Oper.upon_value]
                go_wp2_with fail
                have hwb : Below w0.heap.size w0 (w0.alloc (.cells (madeCells #[.int .u8 0] 0) 5)) := (Below.refl _ _).alloc (Nat.le_refl _) _
                have HT1 := Lib.hid (HT0.out.below hwb)
                have HB1 : Hid (Below B w (w0.alloc (.cells (madeCells #[.int .u8 0] 0) 5))) := Lib.hid (Below.trans HB0.out (hwb.mono HT0.out.bel))
                have k11 : (w0.alloc (.cells (madeCells #[.int .u8 0] 0) 5)).cell? ⟨vb, 1, none⟩ = some (.int .i64 c.n) := cell_later hwb d1
                clear hwb hcv hmk d1 d2 HT0 HB0 HF0
                generalize w0.alloc (.cells (madeCells #[.int .u8 0] 0) 5) = w1 at *
                obtain ⟨D2, e2, hq⟩ : ∃ D2 e2, D.write c.n (zs 0) = (D2, e2) := ⟨_, _, rfl⟩
                have hop2 : D2.op.length ≤ D.op.length + 1 := by have := write_op D c.n (zs 0); rw [hq] at this; exact this
                have HQ := Lib.hid hq; clear hq
                go_region_held3 (fun w' => w'.cell? ⟨vb, 1, none⟩ = some (.int .i64 c.n)) (go_keep)
                  (first
                    | (go_at_call 31; refine (rf_write (by first | exact HT2.out.m | exact HT2.out.m.drew) c.n (zs 0) (by rw [zs_size]; unfold maxLen; omega) (by omega) HR1.out).mono ?_; rw [HQ.out]; rintro e w4 ⟨rfl, S4, hm4, hg4⟩; have HT4 := Lib.hid (Ahead.two (by first | exact HT2.out | exact HT2.out.drew) hm4 hg4); have HB4 : Hid (Below B w w4) := Lib.hid (Below.trans (by first | exact HB2.out | exact HB2.out.drew : Below B w _) (hg4.keep.to_below HT2.out.bel HT2.out.gm)); have k41 : w4.cell? ⟨vb, 1, none⟩ = some (.int .i64 c.n) := hg4.keep.cell k21 (fun h => HNX.out _ (.inr h) rfl); clear hm4 hg4)
                    | (go_at_call 12; refine (ds_write (by first | exact HT1.out.d | exact HT1.out.d.drew) c.n (zs 0) (by rw [zs_size]; unfold maxLen; omega) (by omega) HR1.out).mono ?_; rw [HQ.out]; rintro e w2 ⟨rfl, S2, hd2, hg2⟩; have HT2 := Lib.hid (Two.ahead (by first | exact HT1.out | exact HT1.out.drew) hd2 hg2); have HB2 : Hid (Below B w w2) := Lib.hid (Below.trans (by first | exact HB1.out | exact HB1.out.drew : Below B w _) (hg2.keep.to_below HT1.out.bel HT1.out.gd)); have k21 : w2.cell? ⟨vb, 1, none⟩ = some (.int .i64 c.n) := hg2.keep.cell k11 (fun h => HNX.out _ (.inl h) rfl); clear hd2 hg2))
                go_wp2_with fail
                go_ret3
                exact ⟨xd, xm, D2, S2, S4, rfl, HT4.out, hop2, HB4.out⟩

              · by_cases hc1 : 2000 < c.cut
                · have hmk : ∀ W : World, (Instr.makeSlice 62 (.int .i64 2000) (.int .i64 2000)).run Try.prog W = .ok (.slice (some ⟨W.heap.size, 0, none⟩) 2000 2000) (W.alloc (.cells (madeCells #[.int .u8 0] 2000) 5)) := mk_zs 2000 (by omega)
                  go_enter Try.func22, Try.ntmps22
                  go_wp2_with fail
                  have hbx := heap_alloc_new w (.cells #[.int .i64 c.kind, .int .i64 c.n, .int .i64 c.cut, .int .u8 c.a, .int .u8 c.b, .slice A c.fates.length cap] 27)
                  have hwb : Below w.heap.size w (w.alloc (.cells #[.int .i64 c.kind, .int .i64 c.n, .int .i64 c.cut, .int .u8 c.a, .int .u8 c.b, .slice A c.fates.length cap] 27)) := (Below.refl _ _).alloc (Nat.le_refl _) _
                  have HT0 := Lib.hid (HT.out.below hwb)
                  have HB0 : Hid (Below B w (w.alloc (.cells #[.int .i64 c.kind, .int .i64 c.n, .int .i64 c.cut, .int .u8 c.a, .int .u8 c.b, .slice A c.fates.length cap] 27))) := Lib.hid (hwb.mono HT.out.bel)
                  have HF0 := Lib.hid (HRI.out.below hwb)
                  have HNX : Hid (∀ k, Sd k ∨ Sm k → k ≠ w.heap.size) := Lib.hid (fun k hk e => by
                    rcases hk with hk | hk
                    · have := HT.out.d.lt k hk; omega
                    · have := HT.out.m.lt k hk; omega)
                  have HZW : Hid ((w.alloc (.cells #[.int .i64 c.kind, .int .i64 c.n, .int .i64 c.cut, .int .u8 c.a, .int .u8 c.b, .slice A c.fates.length cap] 27)).heap.size = w.heap.size + 1) := Lib.hid (by simp)
                  clear hwb HT HRI
                  generalize w.alloc (.cells #[.int .i64 c.kind, .int .i64 c.n, .int .i64 c.cut, .int .u8 c.a, .int .u8 c.b, .slice A c.fates.length cap] 27) = w0 at *
                  obtain ⟨vb, hvb⟩ : ∃ vb, w.heap.size = vb := ⟨_, rfl⟩
                  rw [hvb] at hbx HNX HZW ⊢
                  clear hvb
                  have d1 : w0.cell? ⟨vb, 1, none⟩ = some (.int .i64 c.n) := cell_of_row _ _ _ _ _ (0, 0) hbx
                  have d3 : w0.cell? ⟨vb, 3, none⟩ = some (.int .u8 c.a) := cell_of_row _ _ _ _ _ (0, 0) hbx
                  have d4 : w0.cell? ⟨vb, 4, none⟩ = some (.int .u8 c.b) := cell_of_row _ _ _ _ _ (0, 0) hbx
                  have d5 : w0.cell? ⟨vb, 5, none⟩ = some (.slice A c.fates.length cap) := cell_of_row _ _ _ _ _ (0, 0) hbx
                  have d2 : w0.cell? ⟨vb, 2, none⟩ = some (.int .i64 c.cut) := cell_of_row _ _ _ _ _ (0, 0) hbx
                  clear hbx
                  clear d3 d4 d5
                  have hcv := conv_zs 2000 (vb + 1) (w0.alloc (.cells (madeCells #[.int .u8 0] 2000) 5)) (by rw [← HZW.out]; exact heap_alloc_new w0 _)
                  rw [hcv]
                  simp only [Result.andThen]
                  rw [Oper.upon_value]
                  go_wp2_with fail
                  have hwb : Below w0.heap.size w0 (w0.alloc (.cells (madeCells #[.int .u8 0] 2000) 5)) := (Below.refl _ _).alloc (Nat.le_refl _) _
                  have HT1 := Lib.hid (HT0.out.below hwb)
                  have HB1 : Hid (Below B w (w0.alloc (.cells (madeCells #[.int .u8 0] 2000) 5))) := Lib.hid (Below.trans HB0.out (hwb.mono HT0.out.bel))
                  have k11 : (w0.alloc (.cells (madeCells #[.int .u8 0] 2000) 5)).cell? ⟨vb, 1, none⟩ = some (.int .i64 c.n) := cell_later hwb d1
                  clear hwb hcv hmk d1 d2 HT0 HB0 HF0
                  generalize w0.alloc (.cells (madeCells #[.int .u8 0] 2000) 5) = w1 at *
                  obtain ⟨D2, e2, hq⟩ : ∃ D2 e2, D.write c.n (zs 2000) = (D2, e2) := ⟨_, _, rfl⟩
                  have hop2 : D2.op.length ≤ D.op.length + 1 := by have := write_op D c.n (zs 2000); rw [hq] at this; exact this
                  have HQ := Lib.hid hq; clear hq
                  go_region_held3 (fun w' => w'.cell? ⟨vb, 1, none⟩ = some (.int .i64 c.n)) (go_keep)
                    (first
                      | (go_at_call 31; refine (rf_write (by first | exact HT2.out.m | exact HT2.out.m.drew) c.n (zs 2000) (by rw [zs_size]; unfold maxLen; omega) (by omega) HR1.out).mono ?_; rw [HQ.out]; rintro e w4 ⟨rfl, S4, hm4, hg4⟩; have HT4 := Lib.hid (Ahead.two (by first | exact HT2.out | exact HT2.out.drew) hm4 hg4); have HB4 : Hid (Below B w w4) := Lib.hid (Below.trans (by first | exact HB2.out | exact HB2.out.drew : Below B w _) (hg4.keep.to_below HT2.out.bel HT2.out.gm)); have k41 : w4.cell? ⟨vb, 1, none⟩ = some (.int .i64 c.n) := hg4.keep.cell k21 (fun h => HNX.out _ (.inr h) rfl); clear hm4 hg4)
                      | (go_at_call 12; refine (ds_write (by first | exact HT1.out.d | exact HT1.out.d.drew) c.n (zs 2000) (by rw [zs_size]; unfold maxLen; omega) (by omega) HR1.out).mono ?_; rw [HQ.out]; rintro e w2 ⟨rfl, S2, hd2, hg2⟩; have HT2 := Lib.hid (Two.ahead (by first | exact HT1.out | exact HT1.out.drew) hd2 hg2); have HB2 : Hid (Below B w w2) := Lib.hid (Below.trans (by first | exact HB1.out | exact HB1.out.drew : Below B w _) (hg2.keep.to_below HT1.out.bel HT1.out.gd)); have k21 : w2.cell? ⟨vb, 1, none⟩ = some (.int .i64 c.n) := hg2.keep.cell k11 (fun h => HNX.out _ (.inl h) rfl); clear hd2 hg2))
                  go_wp2_with fail
                  go_ret3
                  exact ⟨xd, xm, D2, S2, S4, rfl, HT4.out, hop2, HB4.out⟩

                · obtain ⟨m, hmz⟩ : ∃ m : Nat, c.cut = (m : Int) := ⟨c.cut.toNat, by omega⟩
                  have hm2 : m ≤ 2000 := by omega
                  rw [hmz]
                  clear hmz hc0 hc1
                  have hmk := mk_zs m hm2
                  go_enter Try.func22, Try.ntmps22
                  go_wp2_with fail
                  have hbx := heap_alloc_new w (.cells #[.int .i64 c.kind, .int .i64 c.n, .int .i64 (m : Int), .int .u8 c.a, .int .u8 c.b, .slice A c.fates.length cap] 27)
                  have hwb : Below w.heap.size w (w.alloc (.cells #[.int .i64 c.kind, .int .i64 c.n, .int .i64 (m : Int), .int .u8 c.a, .int .u8 c.b, .slice A c.fates.length cap] 27)) := (Below.refl _ _).alloc (Nat.le_refl _) _
                  have HT0 := Lib.hid (HT.out.below hwb)
                  have HB0 : Hid (Below B w (w.alloc (.cells #[.int .i64 c.kind, .int .i64 c.n, .int .i64 (m : Int), .int .u8 c.a, .int .u8 c.b, .slice A c.fates.length cap] 27))) := Lib.hid (hwb.mono HT.out.bel)
                  have HF0 := Lib.hid (HRI.out.below hwb)
                  have HNX : Hid (∀ k, Sd k ∨ Sm k → k ≠ w.heap.size) := Lib.hid (fun k hk e => by
                    rcases hk with hk | hk
                    · have := HT.out.d.lt k hk; omega
                    · have := HT.out.m.lt k hk; omega)
                  have HZW : Hid ((w.alloc (.cells #[.int .i64 c.kind, .int .i64 c.n, .int .i64 (m : Int), .int .u8 c.a, .int .u8 c.b, .slice A c.fates.length cap] 27)).heap.size = w.heap.size + 1) := Lib.hid (by simp)
                  clear hwb HT HRI
                  generalize w.alloc (.cells #[.int .i64 c.kind, .int .i64 c.n, .int .i64 (m : Int), .int .u8 c.a, .int .u8 c.b, .slice A c.fates.length cap] 27) = w0 at *
                  obtain ⟨vb, hvb⟩ : ∃ vb, w.heap.size = vb := ⟨_, rfl⟩
                  rw [hvb] at hbx HNX HZW ⊢
                  clear hvb
                  have d1 : w0.cell? ⟨vb, 1, none⟩ = some (.int .i64 c.n) := cell_of_row _ _ _ _ _ (0, 0) hbx
                  have d3 : w0.cell? ⟨vb, 3, none⟩ = some (.int .u8 c.a) := cell_of_row _ _ _ _ _ (0, 0) hbx
                  have d4 : w0.cell? ⟨vb, 4, none⟩ = some (.int .u8 c.b) := cell_of_row _ _ _ _ _ (0, 0) hbx
                  have d5 : w0.cell? ⟨vb, 5, none⟩ = some (.slice A c.fates.length cap) := cell_of_row _ _ _ _ _ (0, 0) hbx
                  have d2 : w0.cell? ⟨vb, 2, none⟩ = some (.int .i64 (m : Int)) := cell_of_row _ _ _ _ _ (0, 0) hbx
                  clear hbx
                  clear d3 d4 d5
                  have hcv := conv_zs m (vb + 1) (w0.alloc (.cells (madeCells #[.int .u8 0] m) 5)) (by rw [← HZW.out]; exact heap_alloc_new w0 _)
                  rw [hcv]
                  simp only [Result.andThen]
                  rw [Oper.upon_value]
                  go_wp2_with fail
                  have hwb : Below w0.heap.size w0 (w0.alloc (.cells (madeCells #[.int .u8 0] m) 5)) := (Below.refl _ _).alloc (Nat.le_refl _) _
                  have HT1 := Lib.hid (HT0.out.below hwb)
                  have HB1 : Hid (Below B w (w0.alloc (.cells (madeCells #[.int .u8 0] m) 5))) := Lib.hid (Below.trans HB0.out (hwb.mono HT0.out.bel))
                  have k11 : (w0.alloc (.cells (madeCells #[.int .u8 0] m) 5)).cell? ⟨vb, 1, none⟩ = some (.int .i64 c.n) := cell_later hwb d1
                  clear hwb hcv hmk d1 d2 HT0 HB0 HF0
                  generalize w0.alloc (.cells (madeCells #[.int .u8 0] m) 5) = w1 at *
                  obtain ⟨D2, e2, hq⟩ : ∃ D2 e2, D.write c.n (zs m) = (D2, e2) := ⟨_, _, rfl⟩
                  have hop2 : D2.op.length ≤ D.op.length + 1 := by have := write_op D c.n (zs m); rw [hq] at this; exact this
                  have HQ := Lib.hid hq; clear hq
                  go_region_held3 (fun w' => w'.cell? ⟨vb, 1, none⟩ = some (.int .i64 c.n)) (go_keep)
                    (first
                      | (go_at_call 31; refine (rf_write (by first | exact HT2.out.m | exact HT2.out.m.drew) c.n (zs m) (by rw [zs_size]; unfold maxLen; omega) (by omega) HR1.out).mono ?_; rw [HQ.out]; rintro e w4 ⟨rfl, S4, hm4, hg4⟩; have HT4 := Lib.hid (Ahead.two (by first | exact HT2.out | exact HT2.out.drew) hm4 hg4); have HB4 : Hid (Below B w w4) := Lib.hid (Below.trans (by first | exact HB2.out | exact HB2.out.drew : Below B w _) (hg4.keep.to_below HT2.out.bel HT2.out.gm)); have k41 : w4.cell? ⟨vb, 1, none⟩ = some (.int .i64 c.n) := hg4.keep.cell k21 (fun h => HNX.out _ (.inr h) rfl); clear hm4 hg4)
                      | (go_at_call 12; refine (ds_write (by first | exact HT1.out.d | exact HT1.out.d.drew) c.n (zs m) (by rw [zs_size]; unfold maxLen; omega) (by omega) HR1.out).mono ?_; rw [HQ.out]; rintro e w2 ⟨rfl, S2, hd2, hg2⟩; have HT2 := Lib.hid (Two.ahead (by first | exact HT1.out | exact HT1.out.drew) hd2 hg2); have HB2 : Hid (Below B w w2) := Lib.hid (Below.trans (by first | exact HB1.out | exact HB1.out.drew : Below B w _) (hg2.keep.to_below HT1.out.bel HT1.out.gd)); have k21 : w2.cell? ⟨vb, 1, none⟩ = some (.int .i64 c.n) := hg2.keep.cell k11 (fun h => HNX.out _ (.inl h) rfl); clear hd2 hg2))
                  go_wp2_with fail
                  go_ret3
                  exact ⟨xd, xm, D2, S2, S4, rfl, HT4.out, hop2, HB4.out⟩

end
end Go.Proofs.Ytbgcglojgohjdaa
