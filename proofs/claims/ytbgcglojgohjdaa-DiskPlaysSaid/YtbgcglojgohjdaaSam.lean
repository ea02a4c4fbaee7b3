/- 'same': a disk and the reference's, in one state, show the same (conditions: none). -/
import Derived.Test.YtbgcglojgohjdaaRff
namespace Go.Proofs.Ytbgcglojgohjdaa
attribute [local go_sem ↓] Go.wp_at_zero Go.wp_at_succ
open Go.RowKit Go.Maps

/-- A disk and the reference's, in one state, each in its own memory. -/
structure Two (B : Nat) (w : World) (xd xm : Nat) (D : DS) (Sd Sm : Nat → Prop) : Prop where
  d : Dsk Sd w xd D
  m : Rfd Sm w xm D
  ap : ∀ i, Sd i → ¬ Sm i
  gd : ∀ i, Sd i → B ≤ i
  gm : ∀ i, Sm i → B ≤ i
  bel : B ≤ w.heap.size
section
variable {B : Nat} {w w' : World} {xd xm : Nat} {D D' : DS} {Sd Sm S' : Nat → Prop}
theorem Two.below (h : Two B w xd xm D Sd Sm) (hb : Below w.heap.size w w') : Two B w' xd xm D Sd Sm := ⟨h.d.below hb, h.m.below hb, h.ap, h.gd, h.gm, Nat.le_trans h.bel hb.size⟩
theorem Two.drew (h : Two B w xd xm D Sd Sm) : Two B w.drew xd xm D Sd Sm := h.below (Below.drew (Below.refl _ _))

set_option maxHeartbeats 2000000 in
theorem law_same (h : Two B w xd xm D Sd Sm) (hm : D.op.length ≤ 1000000) : Calls Try.prog 23 #[Pa xd, Pa xm] w fun e w' => e = .returned (.bool true) ∧ Below w.heap.size w w' := by
  obtain ⟨g, cg, A, c, hc⟩ := h.m.cells
  have s1 := hc.ok.wf.s1
  have s2 := hc.ok.wf.s2
  obtain ⟨m, hmz⟩ : ∃ m : Nat, D.size = (m : Int) := ⟨D.size.toNat, by omega⟩
  have hmt : D.size.toNat = m := by omega
  have c0 : w.cell? ⟨xm, 0, none⟩ = some (.slice (some ⟨g, 0, none⟩) m cg) := by rw [← hmt]; exact hc.b.cell 0
  have c1 : w.cell? ⟨xm, 1, none⟩ = some (.slice A D.op.length c) := hc.b.cell 1
  have c3 : w.cell? ⟨xm, 3, none⟩ = some (.bool D.down) := hc.b.cell 3
  have hm0 : m ≤ 4096 := by omega
  have HMZ := Lib.hid hmz
  clear hmz hmt s1 s2 hc
  have HT := Lib.hid h; clear h
  obtain ⟨dn, hdn⟩ : ∃ dn, D.down = dn := ⟨_, rfl⟩
  rw [hdn] at c3
  have HDN := Lib.hid hdn; clear hdn
  go_enter Try.func23, Try.ntmps23
  go_wp2_with fail
  go_region_held3 (fun w' => w'.cell? ⟨xm, 0, none⟩ = some (.slice (some ⟨g, 0, none⟩) m cg) ∧ w'.cell? ⟨xm, 1, none⟩ = some (.slice A D.op.length c) ∧ w'.cell? ⟨xm, 3, none⟩ = some (.bool dn)) (go_keep)
    (first
      | (go_at_call 24; refine (ds_sectors (by first | exact HT.out.d | exact HT.out.d.drew)).mono ?_; rw [HMZ.out]; rintro e w' ⟨rfl, rfl⟩)
      | (go_at_call 15; refine (ds_open (by first | exact HT.out.d | exact HT.out.d.drew)).mono ?_; rintro e w' ⟨rfl, rfl⟩)
      | (go_at_call 16; refine (ds_down (by first | exact HT.out.d | exact HT.out.d.drew)).mono ?_; rw [HDN.out]; rintro e w' ⟨rfl, rfl⟩))
  go_wp2_with fail
  go_loopw [5] (fun v5 wr => ∃ n : Int, -1 ≤ n ∧ n ≤ 12 ∧ v5 = .int .i64 n ∧ Two B wr xd xm D Sd Sm ∧ Below w.heap.size w wr) (fun v5 _ => (12 - intOf v5).toNat)
  case atStart => exact ⟨-1, by omega, by omega, rfl, by first | exact HT.out | exact HT.out.drew, by first | exact Below.refl _ _ | exact Below.drew (Below.refl _ _)⟩
  case round =>
    rename_i wr
    obtain ⟨n, hn1, hn2, rfl, ht, hb⟩ := hrel
    have d0 := cell_later hb c0
    have HTR := Lib.hid ht; clear ht
    have HB := Lib.hid hb; clear hb
    by_cases hlt : n ≤ (m : Int)
    · by_cases h12 : n < 12
      · go_wp2_with fail
        refine (ds_read HTR.out.d n).mono ?_
        rintro e w1 ⟨rfl, hb1⟩
        have HT1 := Lib.hid (HTR.out.below hb1)
        have HB1 := Lib.hid (HB.out.trans (hb1.mono HB.out.size)); clear hb1
        go_wp2_with fail
        refine (rf_read HT1.out.m n hm).mono ?_
        rintro e w' ⟨rfl, rfl⟩
        go_wp2_with fail
        go_roundw
        case rel => exact ⟨n + 1, by omega, by omega, rfl, HT1.out, HB1.out⟩
        case measure => simp [intOf]; omega
      · go_wp2_with fail
        go_ret
        exact ⟨rfl, HB.out⟩
    · go_wp2_with fail
      go_ret
      exact ⟨rfl, HB.out⟩
end
end Go.Proofs.Ytbgcglojgohjdaa
