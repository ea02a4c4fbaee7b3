/- DiskPower: behind so many calls that were done the power is gone, and nothing is written any more (conditions: none). -/
import Derived.Test.YtbgcglojgohjdaaCls
import Derived.Outline
import Derived.Deep.RegionHeld3
import Derived.Deep.RegionHeld3
namespace Go.Proofs.Ytbgcglojgohjdaa
attribute [local go_sem ↓] Go.wp_at_zero Go.wp_at_succ
open Go.RowKit Go.Maps

/-- The disk behind dn calls that were done, of so many that the power has. -/
structure PowD (calls : Int) (dn k : Nat) (D : DS) : Prop where
  lim : D.lim = true
  down : D.down = false
  left : D.left = calls - dn
  le : (dn : Int) ≤ calls
  size : D.size = 8
  op : D.op.length ≤ k

/-- What a call may answer then. -/
def PowR (calls : Int) (dn k : Nat) (r : DS × Int) : Prop := (r.2 = 30 ∧ (dn : Int) = calls ∧ r.1.down = true ∧ r.1.op.length ≤ k) ∨ (r.2 = 0 ∧ PowD calls (dn + 1) (k + 1) r.1) ∨ (r.2 = 31 ∧ PowD calls dn (k + 1) r.1)
theorem pow_power {calls : Int} {dn k : Nat} {D : DS} (h : PowD calls dn k D) : ((dn : Int) = calls → D.power = ({ D with down := true }, 30)) ∧ ((dn : Int) ≠ calls → D.power = (D, 0)) := by
  unfold DS.power
  rw [h.down, h.lim, h.left]
  constructor
  · intro e
    rw [if_neg (by simp), if_pos (by simp; omega)]
  · intro e
    rw [if_neg (by simp), if_neg (by simp; omega)]
theorem pow_write {calls : Int} {dn k : Nat} {D : DS} (h : PowD calls dn k D) (hc : calls ≤ 9223372036854775807) (n : Int) (s : ByteArray) (hs : s.size = 1024) : PowR calls dn k (D.write n s) := by
  have hop := h.op
  have hle := h.le
  obtain ⟨h1, h2⟩ := pow_power h
  unfold DS.write
  by_cases e : (dn : Int) = calls
  · rw [h1 e, if_pos (by simp)]
    exact .inl ⟨rfl, e, rfl, hop⟩
  · rw [h2 e, if_neg (by simp)]
    by_cases hn : n < 0 ∨ D.size ≤ n
    · rw [if_pos hn]
      exact .inr (.inr ⟨rfl, h.lim, h.down, h.left, h.le, h.size, Nat.le_succ_of_le hop⟩)
    · rw [if_neg hn, if_neg (by omega)]
      exact .inr (.inl ⟨rfl, h.lim, h.down, by show wrap64 (D.left - 1) = _; rw [h.left]; unfold wrap64; omega, by omega, h.size, by simp; omega⟩)
theorem pow_flush {calls : Int} {dn k : Nat} {D : DS} (h : PowD calls dn k D) (hc : calls ≤ 9223372036854775807) : PowR calls dn k D.flush := by
  have hop := h.op
  have hle := h.le
  obtain ⟨h1, h2⟩ := pow_power h
  unfold DS.flush
  by_cases e : (dn : Int) = calls
  · rw [h1 e, if_pos (by simp)]
    exact .inl ⟨rfl, e, rfl, hop⟩
  · rw [h2 e, if_neg (by simp)]
    exact .inr (.inl ⟨rfl, h.lim, h.down, by show wrap64 (D.left - 1) = _; rw [h.left]; unfold wrap64; omega, by omega, h.size, by simp⟩)
theorem gone_power {D : DS} (h : D.down = true) : D.power = (D, 30) := by unfold DS.power; rw [if_pos h]
theorem gone_write {D : DS} (h : D.down = true) (n : Int) (s : ByteArray) : D.write n s = (D, 30) := by unfold DS.write; rw [gone_power h, if_pos (by simp)]
theorem gone_flush {D : DS} (h : D.down = true) : D.flush = (D, 30) := by unfold DS.flush; rw [gone_power h, if_pos (by simp)]
theorem gone_read {D : DS} (h : D.down = true) (n : Int) : D.read n = (⟨#[]⟩, 30) := by unfold DS.read; rw [if_pos h]

set_option maxHeartbeats 4000000 in
set_option maxRecDepth 100000 in
theorem law_power {w : World} {A : Option Addr} {n c : Nat} {cs : List CallS} {calls : Int} (h : RC w A n cs) (hcl : i64r calls) : Calls Try.prog 4 #[.slice A n c, .int .i64 calls] w fun e w' => e = .returned (.bool true) ∧ Below w.heap.size w w' := by
  obtain ⟨hcl1, hcl2⟩ := hcl
  have HR := Lib.hid h; clear h
  cases hlg : longB cs with
  | true =>
    have HLG := Lib.hid hlg; clear hlg
    go_enter Try.func4, Try.ntmps4
    go_wp2_with fail
    refine (law_awake _).mono ?_
    rintro e w1 ⟨rfl, hb1⟩
    have HB1 := Lib.hid hb1; clear hb1
    go_wp2_with fail
    refine (law_long (HR.out.below HB1.out)).mono ?_
    rw [HLG.out]
    rintro e w2 ⟨rfl, rfl⟩
    go_wp2_with fail
    go_ret
    exact ⟨rfl, HB1.out⟩
  | false =>
    obtain ⟨hn120, hfates⟩ := longB_no hlg
    rw [HR.out.1] at hn120
    have HLG := Lib.hid hlg; clear hlg hfates
    go_enter Try.func4, Try.ntmps4
    go_wp2_with fail
    refine (law_awake _).mono ?_
    rintro e w1 ⟨rfl, hb1⟩
    have HB1 := Lib.hid hb1; clear hb1
    go_wp2_with fail
    refine (law_long (HR.out.below HB1.out)).mono ?_
    rw [HLG.out]
    rintro e w2 ⟨rfl, rfl⟩
    by_cases hneg : calls < 0
    · go_wp2_with fail
      go_ret
      exact ⟨rfl, HB1.out⟩
    · go_wp2_with fail
      refine (ds_new 8 (by omega) (by omega)).mono ?_
      rintro e w3 ⟨x, rfl, S3, hd3, hb3, hs3⟩
      have HD3 := Lib.hid hd3; clear hd3
      have HB3 := Lib.hid (HB1.out.trans (hb3.mono HB1.out.size))
      have HS3 : Hid (∀ k, S3 k → w.heap.size ≤ k) := Lib.hid (fun k hk => Nat.le_trans HB1.out.size (hs3 k hk)); clear hb3 hs3
      go_wp2_with fail
      refine (ds_setpower HD3.out calls).mono ?_
      rintro e w4 ⟨rfl, S4, hd4, hg4⟩
      have HD4 := Lib.hid hd4; clear hd4
      have HB4 : Hid (Below w.heap.size w w4) := Lib.hid (HB3.out.trans (hg4.keep.to_below HB3.out.size HS3.out))
      have HS4 : Hid (∀ k, S4 k → w.heap.size ≤ k) := Lib.hid (fun k hk => by
        rcases hg4.new k hk with h | h
        · exact HS3.out k h
        · exact Nat.le_trans HB3.out.size h); clear hg4
      have hpd : PowD calls 0 0 ((DS.new 8).setPower calls) := ⟨by simp [DS.setPower, DS.new]; omega, rfl, by simp [DS.setPower, DS.new], by omega, rfl, by simp [DS.setPower, DS.new]⟩
      go_wp2_with fail
      go_loopw [7, 8] (fun v7 v8 wr => ∃ (k dn : Nat) (S : Nat → Prop) (D : DS), k ≤ n ∧ v8 = .int .i64 k ∧ v7 = .int .i64 dn ∧ dn ≤ k ∧ PowD calls dn k D ∧ Dsk S wr x D ∧ Below w.heap.size w wr ∧ (∀ k, S k → w.heap.size ≤ k)) (fun _ v8 _ => n - (intOf v8).toNat)
      case atStart => exact ⟨0, 0, S4, _, Nat.zero_le _, rfl, rfl, Nat.le_refl _, hpd, HD4.out, HB4.out, HS4.out⟩
      case round =>
        clear hpd HD4 HB4 HS4 HD3 HB3 HS3
        rename_i wr
        obtain ⟨k, dn, S, D, hk, rfl, rfl, hdk, hpd, hd, hb, hs⟩ := hrel
        have HPD := Lib.hid hpd; clear hpd
        have HD := Lib.hid hd; clear hd
        have HB := Lib.hid hb; clear hb
        have HS := Lib.hid hs; clear hs
        have hle := HPD.out.le
        by_cases hlt : k < n
        · have hrc := HR.out.below HB.out
          obtain ⟨ad, rfl, hcs⟩ := hrc.2.2 (by omega)
          have hcall := hcs k hlt
          clear hcs hrc
          obtain ⟨c0, c1, c2, c3, c4, ⟨Af, cf, c5, hri⟩, r0, r1, r2⟩ := hcall
          generalize cs.getD k default = cl at *
          clear hri
          by_cases hk0 : cl.kind = 0
          · rw [hk0] at c0
            obtain ⟨D6, e6, hq⟩ : ∃ D6 e6, D.write cl.n (dat cl.a cl.b) = (D6, e6) := ⟨_, _, rfl⟩
            have hr : PowR calls dn k (D6, e6) := hq ▸ pow_write HPD.out hcl2 _ _ (dat_size _ _)
            have HQ := Lib.hid hq; clear hq
            rcases hr with ⟨he, hdc, hdn, hop⟩ | ⟨he, hpd⟩ | ⟨he, hpd⟩
            · obtain rfl : e6 = 30 := he
              go_wp2_with fail
              have hbx := heap_alloc_new wr (.cells #[.int .i64 0, .int .i64 cl.n, .int .i64 cl.cut, .int .u8 cl.a, .int .u8 cl.b, .slice Af cl.fates.length cf] 27)
              have hwb : Below wr.heap.size wr (wr.alloc (.cells #[.int .i64 0, .int .i64 cl.n, .int .i64 cl.cut, .int .u8 cl.a, .int .u8 cl.b, .slice Af cl.fates.length cf] 27)) := (Below.refl _ _).alloc (Nat.le_refl _) _
              replace HB := Lib.hid (HB.out.trans (hwb.mono HB.out.size))
              have hnx : ∀ k, S k → k ≠ wr.heap.size := fun k hk e => by have := HD.out.lt k hk; omega
              replace HD := Lib.hid (HD.out.below hwb)
              clear hwb c0 c1 c2 c3 c4 c5
              generalize wr.alloc (.cells #[.int .i64 0, .int .i64 cl.n, .int .i64 cl.cut, .int .u8 cl.a, .int .u8 cl.b, .slice Af cl.fates.length cf] 27) = w0 at *
              generalize wr.heap.size = vb at *
              have d1 : w0.cell? ⟨vb, 1, none⟩ = some (.int .i64 cl.n) := cell_of_row _ _ _ _ _ (0, 0) hbx
              have d3 : w0.cell? ⟨vb, 3, none⟩ = some (.int .u8 cl.a) := cell_of_row _ _ _ _ _ (0, 0) hbx
              have d4 : w0.cell? ⟨vb, 4, none⟩ = some (.int .u8 cl.b) := cell_of_row _ _ _ _ _ (0, 0) hbx
              have HNX := Lib.hid hnx; clear hnx hbx
              go_region_held3 (fun w' => w'.cell? ⟨vb, 1, none⟩ = some (.int .i64 cl.n) ∧ w'.cell? ⟨vb, 3, none⟩ = some (.int .u8 cl.a) ∧ w'.cell? ⟨vb, 4, none⟩ = some (.int .u8 cl.b)) (go_keep)
                (first
                  | (go_at_call 13; refine (law_data cl.a cl.b _).mono ?_; rintro e w5 ⟨rfl, hb5⟩; have e1 : w5.cell? ⟨vb, 1, none⟩ = some (.int .i64 cl.n) := cell_later hb5 d1; have e3 : w5.cell? ⟨vb, 3, none⟩ = some (.int .u8 cl.a) := cell_later hb5 d3; have e4 : w5.cell? ⟨vb, 4, none⟩ = some (.int .u8 cl.b) := cell_later hb5 d4; have HD5 : Hid (Dsk S w5 x D) := Lib.hid (HD.out.drew.below hb5); have HB5 : Hid (Below w.heap.size w w5) := Lib.hid (HB.out.drew.trans (hb5.mono HB.out.size)); clear hb5)
                  | (go_at_call 12; refine (ds_write (by first | exact HD5.out | exact HD5.out.drew) cl.n (dat cl.a cl.b) (by rw [dat_size]; unfold maxLen; omega) (by have := HPD.out.op; omega) r1).mono ?_; rw [HQ.out]; rintro e w6 ⟨rfl, S6, hd6, hg6⟩; have HD6 : Hid (Dsk S6 w6 x D6) := Lib.hid hd6; have HS6 : Hid (∀ k, S6 k → w.heap.size ≤ k) := Lib.hid (fun k hk => by rcases hg6.new k hk with h | h; exact HS.out k h; exact Nat.le_trans HB5.out.size h); have HB6 : Hid (Below w.heap.size w w6) := Lib.hid ((by first | exact HB5.out | exact HB5.out.drew : Below w.heap.size w _).trans (hg6.keep.to_below HB5.out.size HS.out)); have e1' : w6.cell? ⟨vb, 1, none⟩ = some (.int .i64 cl.n) := hg6.keep.cell (by first | exact e1) (fun h => HNX.out _ h rfl); have e3' : w6.cell? ⟨vb, 3, none⟩ = some (.int .u8 cl.a) := hg6.keep.cell (by first | exact e3) (fun h => HNX.out _ h rfl); have e4' : w6.cell? ⟨vb, 4, none⟩ = some (.int .u8 cl.b) := hg6.keep.cell (by first | exact e4) (fun h => HNX.out _ h rfl); clear hd6 hg6))
              clear d1 d3 d4 e1 e3 e4 e1' e3' e4'
              have HDN := Lib.hid hdn; clear hdn
              have hge : ((dn : Int) != calls) = false := by simpa using hdc
              have HDC := Lib.hid hdc; clear hdc
              go_wp2_with (go_at_call 16; refine (ds_down HD6.out).mono ?_; rw [HDN.out]; rintro e w' ⟨rfl, rfl⟩)
              refine (ds_read HD6.out 0).mono ?_
              rw [gone_read HDN.out]
              rintro e w7 ⟨rfl, hb7⟩
              have HD7 := Lib.hid (HD6.out.below hb7)
              have HB7 : Hid (Below w.heap.size w w7) := Lib.hid (HB6.out.trans (hb7.mono HB6.out.size)); clear hb7
              go_wp2_with fail
              refine (ds_open HD7.out).mono ?_
              rintro e w' ⟨rfl, rfl⟩
              go_wp2_with fail
              refine (law_data 1 1 _).mono ?_
              rintro e w8 ⟨rfl, hb8⟩
              have HD8 := Lib.hid (HD7.out.below hb8)
              have HB8 : Hid (Below w.heap.size w w8) := Lib.hid (HB7.out.trans (hb8.mono HB7.out.size)); clear hb8
              go_wp2_with fail
              refine (ds_write HD8.out 0 (dat 1 1) (by rw [dat_size]; unfold maxLen; omega) (by omega) (by omega)).mono ?_
              rw [gone_write HDN.out]
              rintro e w9 ⟨rfl, S9, hd9, hg9⟩
              have HD9 : Hid (Dsk S9 w9 x D6) := Lib.hid hd9
              have HS9 : Hid (∀ k, S9 k → w.heap.size ≤ k) := Lib.hid (fun k hk => by
                rcases hg9.new k hk with h | h
                · exact HS6.out k h
                · exact Nat.le_trans HB8.out.size h)
              have HB9 : Hid (Below w.heap.size w w9) := Lib.hid (HB8.out.trans (hg9.keep.to_below HB8.out.size HS6.out))
              clear hd9 hg9
              go_wp2_with fail
              refine (ds_flush HD9.out).mono ?_
              rw [gone_flush HDN.out]
              rintro e w10 ⟨rfl, S10, hd10, hg10⟩
              have HD10 : Hid (Dsk S10 w10 x D6) := Lib.hid hd10
              have HB10 : Hid (Below w.heap.size w w10) := Lib.hid (HB9.out.trans (hg10.keep.to_below HB9.out.size HS9.out))
              clear hd10 hg10
              go_wp2_with fail
              refine (ds_open HD10.out).mono ?_
              rintro e w' ⟨rfl, rfl⟩
              go_wp2_with fail
              go_ret
              exact ⟨by simp, HB10.out⟩
            · obtain rfl : e6 = 0 := he
              go_wp2_with fail
              have hbx := heap_alloc_new wr (.cells #[.int .i64 0, .int .i64 cl.n, .int .i64 cl.cut, .int .u8 cl.a, .int .u8 cl.b, .slice Af cl.fates.length cf] 27)
              have hwb : Below wr.heap.size wr (wr.alloc (.cells #[.int .i64 0, .int .i64 cl.n, .int .i64 cl.cut, .int .u8 cl.a, .int .u8 cl.b, .slice Af cl.fates.length cf] 27)) := (Below.refl _ _).alloc (Nat.le_refl _) _
              replace HB := Lib.hid (HB.out.trans (hwb.mono HB.out.size))
              have hnx : ∀ k, S k → k ≠ wr.heap.size := fun k hk e => by have := HD.out.lt k hk; omega
              replace HD := Lib.hid (HD.out.below hwb)
              clear hwb c0 c1 c2 c3 c4 c5
              generalize wr.alloc (.cells #[.int .i64 0, .int .i64 cl.n, .int .i64 cl.cut, .int .u8 cl.a, .int .u8 cl.b, .slice Af cl.fates.length cf] 27) = w0 at *
              generalize wr.heap.size = vb at *
              have d1 : w0.cell? ⟨vb, 1, none⟩ = some (.int .i64 cl.n) := cell_of_row _ _ _ _ _ (0, 0) hbx
              have d3 : w0.cell? ⟨vb, 3, none⟩ = some (.int .u8 cl.a) := cell_of_row _ _ _ _ _ (0, 0) hbx
              have d4 : w0.cell? ⟨vb, 4, none⟩ = some (.int .u8 cl.b) := cell_of_row _ _ _ _ _ (0, 0) hbx
              have HNX := Lib.hid hnx; clear hnx hbx
              go_region_held3 (fun w' => w'.cell? ⟨vb, 1, none⟩ = some (.int .i64 cl.n) ∧ w'.cell? ⟨vb, 3, none⟩ = some (.int .u8 cl.a) ∧ w'.cell? ⟨vb, 4, none⟩ = some (.int .u8 cl.b)) (go_keep)
                (first
                  | (go_at_call 13; refine (law_data cl.a cl.b _).mono ?_; rintro e w5 ⟨rfl, hb5⟩; have e1 : w5.cell? ⟨vb, 1, none⟩ = some (.int .i64 cl.n) := cell_later hb5 d1; have e3 : w5.cell? ⟨vb, 3, none⟩ = some (.int .u8 cl.a) := cell_later hb5 d3; have e4 : w5.cell? ⟨vb, 4, none⟩ = some (.int .u8 cl.b) := cell_later hb5 d4; have HD5 : Hid (Dsk S w5 x D) := Lib.hid (HD.out.drew.below hb5); have HB5 : Hid (Below w.heap.size w w5) := Lib.hid (HB.out.drew.trans (hb5.mono HB.out.size)); clear hb5)
                  | (go_at_call 12; refine (ds_write (by first | exact HD5.out | exact HD5.out.drew) cl.n (dat cl.a cl.b) (by rw [dat_size]; unfold maxLen; omega) (by have := HPD.out.op; omega) r1).mono ?_; rw [HQ.out]; rintro e w6 ⟨rfl, S6, hd6, hg6⟩; have HD6 : Hid (Dsk S6 w6 x D6) := Lib.hid hd6; have HS6 : Hid (∀ k, S6 k → w.heap.size ≤ k) := Lib.hid (fun k hk => by rcases hg6.new k hk with h | h; exact HS.out k h; exact Nat.le_trans HB5.out.size h); have HB6 : Hid (Below w.heap.size w w6) := Lib.hid ((by first | exact HB5.out | exact HB5.out.drew : Below w.heap.size w _).trans (hg6.keep.to_below HB5.out.size HS.out)); have e1' : w6.cell? ⟨vb, 1, none⟩ = some (.int .i64 cl.n) := hg6.keep.cell (by first | exact e1) (fun h => HNX.out _ h rfl); have e3' : w6.cell? ⟨vb, 3, none⟩ = some (.int .u8 cl.a) := hg6.keep.cell (by first | exact e3) (fun h => HNX.out _ h rfl); have e4' : w6.cell? ⟨vb, 4, none⟩ = some (.int .u8 cl.b) := hg6.keep.cell (by first | exact e4) (fun h => HNX.out _ h rfl); clear hd6 hg6))
              clear d1 d3 d4 e1 e3 e4 e1' e3' e4'
              have hle2 := hpd.le
              have HPD2 := Lib.hid hpd; clear hpd
              go_wp2_with (go_at_call 16; refine (ds_down HD6.out).mono ?_; rw [HPD2.out.down]; rintro e w' ⟨rfl, rfl⟩)
              go_roundw
              case rel => exact ⟨k + 1, dn + 1, S6, D6, by omega, by go_num, by go_num, by omega, HPD2.out, HD6.out, HB6.out, HS6.out⟩
              case measure => simp [intOf]; omega
            · obtain rfl : e6 = 31 := he
              go_wp2_with fail
              have hbx := heap_alloc_new wr (.cells #[.int .i64 0, .int .i64 cl.n, .int .i64 cl.cut, .int .u8 cl.a, .int .u8 cl.b, .slice Af cl.fates.length cf] 27)
              have hwb : Below wr.heap.size wr (wr.alloc (.cells #[.int .i64 0, .int .i64 cl.n, .int .i64 cl.cut, .int .u8 cl.a, .int .u8 cl.b, .slice Af cl.fates.length cf] 27)) := (Below.refl _ _).alloc (Nat.le_refl _) _
              replace HB := Lib.hid (HB.out.trans (hwb.mono HB.out.size))
              have hnx : ∀ k, S k → k ≠ wr.heap.size := fun k hk e => by have := HD.out.lt k hk; omega
              replace HD := Lib.hid (HD.out.below hwb)
              clear hwb c0 c1 c2 c3 c4 c5
              generalize wr.alloc (.cells #[.int .i64 0, .int .i64 cl.n, .int .i64 cl.cut, .int .u8 cl.a, .int .u8 cl.b, .slice Af cl.fates.length cf] 27) = w0 at *
              generalize wr.heap.size = vb at *
              have d1 : w0.cell? ⟨vb, 1, none⟩ = some (.int .i64 cl.n) := cell_of_row _ _ _ _ _ (0, 0) hbx
              have d3 : w0.cell? ⟨vb, 3, none⟩ = some (.int .u8 cl.a) := cell_of_row _ _ _ _ _ (0, 0) hbx
              have d4 : w0.cell? ⟨vb, 4, none⟩ = some (.int .u8 cl.b) := cell_of_row _ _ _ _ _ (0, 0) hbx
              have HNX := Lib.hid hnx; clear hnx hbx
              go_region_held3 (fun w' => w'.cell? ⟨vb, 1, none⟩ = some (.int .i64 cl.n) ∧ w'.cell? ⟨vb, 3, none⟩ = some (.int .u8 cl.a) ∧ w'.cell? ⟨vb, 4, none⟩ = some (.int .u8 cl.b)) (go_keep)
                (first
                  | (go_at_call 13; refine (law_data cl.a cl.b _).mono ?_; rintro e w5 ⟨rfl, hb5⟩; have e1 : w5.cell? ⟨vb, 1, none⟩ = some (.int .i64 cl.n) := cell_later hb5 d1; have e3 : w5.cell? ⟨vb, 3, none⟩ = some (.int .u8 cl.a) := cell_later hb5 d3; have e4 : w5.cell? ⟨vb, 4, none⟩ = some (.int .u8 cl.b) := cell_later hb5 d4; have HD5 : Hid (Dsk S w5 x D) := Lib.hid (HD.out.drew.below hb5); have HB5 : Hid (Below w.heap.size w w5) := Lib.hid (HB.out.drew.trans (hb5.mono HB.out.size)); clear hb5)
                  | (go_at_call 12; refine (ds_write (by first | exact HD5.out | exact HD5.out.drew) cl.n (dat cl.a cl.b) (by rw [dat_size]; unfold maxLen; omega) (by have := HPD.out.op; omega) r1).mono ?_; rw [HQ.out]; rintro e w6 ⟨rfl, S6, hd6, hg6⟩; have HD6 : Hid (Dsk S6 w6 x D6) := Lib.hid hd6; have HS6 : Hid (∀ k, S6 k → w.heap.size ≤ k) := Lib.hid (fun k hk => by rcases hg6.new k hk with h | h; exact HS.out k h; exact Nat.le_trans HB5.out.size h); have HB6 : Hid (Below w.heap.size w w6) := Lib.hid ((by first | exact HB5.out | exact HB5.out.drew : Below w.heap.size w _).trans (hg6.keep.to_below HB5.out.size HS.out)); have e1' : w6.cell? ⟨vb, 1, none⟩ = some (.int .i64 cl.n) := hg6.keep.cell (by first | exact e1) (fun h => HNX.out _ h rfl); have e3' : w6.cell? ⟨vb, 3, none⟩ = some (.int .u8 cl.a) := hg6.keep.cell (by first | exact e3) (fun h => HNX.out _ h rfl); have e4' : w6.cell? ⟨vb, 4, none⟩ = some (.int .u8 cl.b) := hg6.keep.cell (by first | exact e4) (fun h => HNX.out _ h rfl); clear hd6 hg6))
              clear d1 d3 d4 e1 e3 e4 e1' e3' e4'
              have hle2 := hpd.le
              have HPD2 := Lib.hid hpd; clear hpd
              go_wp2_with (go_at_call 16; refine (ds_down HD6.out).mono ?_; rw [HPD2.out.down]; rintro e w' ⟨rfl, rfl⟩)
              go_roundw
              case rel => exact ⟨k + 1, dn, S6, D6, by omega, by go_num, by go_num, by omega, HPD2.out, HD6.out, HB6.out, HS6.out⟩
              case measure => simp [intOf]; omega
          · by_cases hk1 : cl.kind = 1
            · rw [hk1] at c0
              obtain ⟨D6, e6, hq⟩ : ∃ D6 e6, D.flush = (D6, e6) := ⟨_, _, rfl⟩
              have hr : PowR calls dn k (D6, e6) := hq ▸ pow_flush HPD.out hcl2
              have HQ := Lib.hid hq; clear hq
              rcases hr with ⟨he, hdc, hdn, hop⟩ | ⟨he, hpd⟩ | ⟨he, hpd⟩
              · obtain rfl : e6 = 30 := he
                go_wp2_with fail
                have hbx := heap_alloc_new wr (.cells #[.int .i64 1, .int .i64 cl.n, .int .i64 cl.cut, .int .u8 cl.a, .int .u8 cl.b, .slice Af cl.fates.length cf] 27)
                have hwb : Below wr.heap.size wr (wr.alloc (.cells #[.int .i64 1, .int .i64 cl.n, .int .i64 cl.cut, .int .u8 cl.a, .int .u8 cl.b, .slice Af cl.fates.length cf] 27)) := (Below.refl _ _).alloc (Nat.le_refl _) _
                replace HB := Lib.hid (HB.out.trans (hwb.mono HB.out.size))
                have hnx : ∀ k, S k → k ≠ wr.heap.size := fun k hk e => by have := HD.out.lt k hk; omega
                replace HD := Lib.hid (HD.out.below hwb)
                clear hwb c0 c1 c2 c3 c4 c5
                generalize wr.alloc (.cells #[.int .i64 1, .int .i64 cl.n, .int .i64 cl.cut, .int .u8 cl.a, .int .u8 cl.b, .slice Af cl.fates.length cf] 27) = w0 at *
                generalize wr.heap.size = vb at *
                clear hnx hbx
                go_wp2_with fail
                refine (ds_flush HD.out).mono ?_
                rw [HQ.out]
                rintro e w6 ⟨rfl, S6, hd6, hg6⟩
                have HD6 : Hid (Dsk S6 w6 x D6) := Lib.hid hd6
                have HS6 : Hid (∀ k, S6 k → w.heap.size ≤ k) := Lib.hid (fun k hk => by
                  rcases hg6.new k hk with h | h
                  · exact HS.out k h
                  · exact Nat.le_trans HB.out.size h)
                have HB6 : Hid (Below w.heap.size w w6) := Lib.hid (HB.out.trans (hg6.keep.to_below HB.out.size HS.out))
                clear hd6 hg6
                have HDN := Lib.hid hdn; clear hdn
                have hge : ((dn : Int) != calls) = false := by simpa using hdc
                have HDC := Lib.hid hdc; clear hdc
                go_wp2_with (go_at_call 16; refine (ds_down HD6.out).mono ?_; rw [HDN.out]; rintro e w' ⟨rfl, rfl⟩)
                refine (ds_read HD6.out 0).mono ?_
                rw [gone_read HDN.out]
                rintro e w7 ⟨rfl, hb7⟩
                have HD7 := Lib.hid (HD6.out.below hb7)
                have HB7 : Hid (Below w.heap.size w w7) := Lib.hid (HB6.out.trans (hb7.mono HB6.out.size)); clear hb7
                go_wp2_with fail
                refine (ds_open HD7.out).mono ?_
                rintro e w' ⟨rfl, rfl⟩
                go_wp2_with fail
                refine (law_data 1 1 _).mono ?_
                rintro e w8 ⟨rfl, hb8⟩
                have HD8 := Lib.hid (HD7.out.below hb8)
                have HB8 : Hid (Below w.heap.size w w8) := Lib.hid (HB7.out.trans (hb8.mono HB7.out.size)); clear hb8
                go_wp2_with fail
                refine (ds_write HD8.out 0 (dat 1 1) (by rw [dat_size]; unfold maxLen; omega) (by omega) (by omega)).mono ?_
                rw [gone_write HDN.out]
                rintro e w9 ⟨rfl, S9, hd9, hg9⟩
                have HD9 : Hid (Dsk S9 w9 x D6) := Lib.hid hd9
                have HS9 : Hid (∀ k, S9 k → w.heap.size ≤ k) := Lib.hid (fun k hk => by
                  rcases hg9.new k hk with h | h
                  · exact HS6.out k h
                  · exact Nat.le_trans HB8.out.size h)
                have HB9 : Hid (Below w.heap.size w w9) := Lib.hid (HB8.out.trans (hg9.keep.to_below HB8.out.size HS6.out))
                clear hd9 hg9
                go_wp2_with fail
                refine (ds_flush HD9.out).mono ?_
                rw [gone_flush HDN.out]
                rintro e w10 ⟨rfl, S10, hd10, hg10⟩
                have HD10 : Hid (Dsk S10 w10 x D6) := Lib.hid hd10
                have HB10 : Hid (Below w.heap.size w w10) := Lib.hid (HB9.out.trans (hg10.keep.to_below HB9.out.size HS9.out))
                clear hd10 hg10
                go_wp2_with fail
                refine (ds_open HD10.out).mono ?_
                rintro e w' ⟨rfl, rfl⟩
                go_wp2_with fail
                go_ret
                exact ⟨by simp, HB10.out⟩
              · obtain rfl : e6 = 0 := he
                go_wp2_with fail
                have hbx := heap_alloc_new wr (.cells #[.int .i64 1, .int .i64 cl.n, .int .i64 cl.cut, .int .u8 cl.a, .int .u8 cl.b, .slice Af cl.fates.length cf] 27)
                have hwb : Below wr.heap.size wr (wr.alloc (.cells #[.int .i64 1, .int .i64 cl.n, .int .i64 cl.cut, .int .u8 cl.a, .int .u8 cl.b, .slice Af cl.fates.length cf] 27)) := (Below.refl _ _).alloc (Nat.le_refl _) _
                replace HB := Lib.hid (HB.out.trans (hwb.mono HB.out.size))
                have hnx : ∀ k, S k → k ≠ wr.heap.size := fun k hk e => by have := HD.out.lt k hk; omega
                replace HD := Lib.hid (HD.out.below hwb)
                clear hwb c0 c1 c2 c3 c4 c5
                generalize wr.alloc (.cells #[.int .i64 1, .int .i64 cl.n, .int .i64 cl.cut, .int .u8 cl.a, .int .u8 cl.b, .slice Af cl.fates.length cf] 27) = w0 at *
                generalize wr.heap.size = vb at *
                clear hnx hbx
                go_wp2_with fail
                refine (ds_flush HD.out).mono ?_
                rw [HQ.out]
                rintro e w6 ⟨rfl, S6, hd6, hg6⟩
                have HD6 : Hid (Dsk S6 w6 x D6) := Lib.hid hd6
                have HS6 : Hid (∀ k, S6 k → w.heap.size ≤ k) := Lib.hid (fun k hk => by
                  rcases hg6.new k hk with h | h
                  · exact HS.out k h
                  · exact Nat.le_trans HB.out.size h)
                have HB6 : Hid (Below w.heap.size w w6) := Lib.hid (HB.out.trans (hg6.keep.to_below HB.out.size HS.out))
                clear hd6 hg6
                have hle2 := hpd.le
                have HPD2 := Lib.hid hpd; clear hpd
                go_wp2_with (go_at_call 16; refine (ds_down HD6.out).mono ?_; rw [HPD2.out.down]; rintro e w' ⟨rfl, rfl⟩)
                go_roundw
                case rel => exact ⟨k + 1, dn + 1, S6, D6, by omega, by go_num, by go_num, by omega, HPD2.out, HD6.out, HB6.out, HS6.out⟩
                case measure => simp [intOf]; omega
              · obtain rfl : e6 = 31 := he
                go_wp2_with fail
                have hbx := heap_alloc_new wr (.cells #[.int .i64 1, .int .i64 cl.n, .int .i64 cl.cut, .int .u8 cl.a, .int .u8 cl.b, .slice Af cl.fates.length cf] 27)
                have hwb : Below wr.heap.size wr (wr.alloc (.cells #[.int .i64 1, .int .i64 cl.n, .int .i64 cl.cut, .int .u8 cl.a, .int .u8 cl.b, .slice Af cl.fates.length cf] 27)) := (Below.refl _ _).alloc (Nat.le_refl _) _
                replace HB := Lib.hid (HB.out.trans (hwb.mono HB.out.size))
                have hnx : ∀ k, S k → k ≠ wr.heap.size := fun k hk e => by have := HD.out.lt k hk; omega
                replace HD := Lib.hid (HD.out.below hwb)
                clear hwb c0 c1 c2 c3 c4 c5
                generalize wr.alloc (.cells #[.int .i64 1, .int .i64 cl.n, .int .i64 cl.cut, .int .u8 cl.a, .int .u8 cl.b, .slice Af cl.fates.length cf] 27) = w0 at *
                generalize wr.heap.size = vb at *
                clear hnx hbx
                go_wp2_with fail
                refine (ds_flush HD.out).mono ?_
                rw [HQ.out]
                rintro e w6 ⟨rfl, S6, hd6, hg6⟩
                have HD6 : Hid (Dsk S6 w6 x D6) := Lib.hid hd6
                have HS6 : Hid (∀ k, S6 k → w.heap.size ≤ k) := Lib.hid (fun k hk => by
                  rcases hg6.new k hk with h | h
                  · exact HS.out k h
                  · exact Nat.le_trans HB.out.size h)
                have HB6 : Hid (Below w.heap.size w w6) := Lib.hid (HB.out.trans (hg6.keep.to_below HB.out.size HS.out))
                clear hd6 hg6
                have hle2 := hpd.le
                have HPD2 := Lib.hid hpd; clear hpd
                go_wp2_with (go_at_call 16; refine (ds_down HD6.out).mono ?_; rw [HPD2.out.down]; rintro e w' ⟨rfl, rfl⟩)
                go_roundw
                case rel => exact ⟨k + 1, dn, S6, D6, by omega, by go_num, by go_num, by omega, HPD2.out, HD6.out, HB6.out, HS6.out⟩
                case measure => simp [intOf]; omega
            · have hk0' : (cl.kind == 0) = false := by simpa using hk0
              have hk1' : (cl.kind == 1) = false := by simpa using hk1
              go_wp2_with fail
              have hwb : Below wr.heap.size wr (wr.alloc (.cells #[.int .i64 cl.kind, .int .i64 cl.n, .int .i64 cl.cut, .int .u8 cl.a, .int .u8 cl.b, .slice Af cl.fates.length cf] 27)) := (Below.refl _ _).alloc (Nat.le_refl _) _
              go_roundw
              case rel =>
                have hp := HPD.out
                have hop := hp.op
                exact ⟨k + 1, dn, S, D, by omega, by go_num, rfl, by omega, ⟨hp.lim, hp.down, hp.left, hp.le, hp.size, by omega⟩, HD.out.below hwb, HB.out.trans (hwb.mono HB.out.size), HS.out⟩
              case measure => simp [intOf]; omega
        · go_wp2_with fail
          go_ret
          exact ⟨by simp [hle], HB.out⟩
end Go.Proofs.Ytbgcglojgohjdaa
