/- DiskApart: a copy, and what a crash leaves, are disks of their own (conditions: none). -/
import Derived.Test.YtbgcglojgohjdaaMade
namespace Go.Proofs.Ytbgcglojgohjdaa
attribute [local go_sem ↓] Go.wp_at_zero Go.wp_at_succ
open Go.RowKit Go.Maps

/-- Two disks that are worked on, three that are left as they are. -/
structure Five (B : Nat) (w : World) (xa xm xk xb xc : Nat) (Da Dk Db Dc : DS) (F Sb Sc : Nat → Prop) : Prop where
  a : ∃ S, Dsk S w xa Da ∧ ∀ i, S i → F i
  m : ∃ S, Dsk S w xm Da ∧ ∀ i, S i → F i
  k : ∃ S, Dsk S w xk Dk ∧ ∀ i, S i → F i
  b : Dsk Sb w xb Db
  c : Dsk Sc w xc Dc
  lt : ∀ i, F i → i < w.heap.size
  fb : ∀ i, F i → ¬ Sb i
  fc : ∀ i, F i → ¬ Sc i
  bc : ∀ i, Sb i → ¬ Sc i
  geb : ∀ i, Sb i → B ≤ i
  gec : ∀ i, Sc i → B ≤ i
  bel : B ≤ w.heap.size
section
variable {B : Nat} {w w' : World} {xa xm xk xb xc : Nat} {Da Dk Db Dc D' : DS} {F Sb Sc S' : Nat → Prop}
theorem Five.below (h : Five B w xa xm xk xb xc Da Dk Db Dc F Sb Sc) (hb : Below w.heap.size w w') : Five B w' xa xm xk xb xc Da Dk Db Dc F Sb Sc :=
  ⟨let ⟨S, h1, h2⟩ := h.a; ⟨S, h1.below hb, h2⟩, let ⟨S, h1, h2⟩ := h.m; ⟨S, h1.below hb, h2⟩, let ⟨S, h1, h2⟩ := h.k; ⟨S, h1.below hb, h2⟩, h.b.below hb, h.c.below hb, fun i hi => Nat.lt_of_lt_of_le (h.lt i hi) hb.size, h.fb, h.fc, h.bc, h.geb, h.gec, Nat.le_trans h.bel hb.size⟩
theorem Five.stepB (h : Five B w xa xm xk xb xc Da Dk Db Dc F Sb Sc) (hd : Dsk S' w' xb D') (g : Grow Sb S' w w') : Five B w' xa xm xk xb xc Da Dk D' Dc F S' Sc :=
  ⟨let ⟨S, h1, h2⟩ := h.a; ⟨S, h1.keep g.keep (fun i hi => h.fb i (h2 i hi)), h2⟩, let ⟨S, h1, h2⟩ := h.m; ⟨S, h1.keep g.keep (fun i hi => h.fb i (h2 i hi)), h2⟩, let ⟨S, h1, h2⟩ := h.k; ⟨S, h1.keep g.keep (fun i hi => h.fb i (h2 i hi)), h2⟩, hd,
    h.c.keep g.keep (fun i hi hs => h.bc i hs hi), fun i hi => Nat.lt_of_lt_of_le (h.lt i hi) g.keep.size, g.apart h.lt h.fb, h.fc, fun i hi hc => g.apart h.c.lt (fun i hi hs => h.bc i hs hi) i hc hi,
    fun i hi => (g.new i hi).elim (h.geb i) (Nat.le_trans h.bel), h.gec, Nat.le_trans h.bel g.keep.size⟩
theorem Five.stepC (h : Five B w xa xm xk xb xc Da Dk Db Dc F Sb Sc) (hd : Dsk S' w' xc D') (g : Grow Sc S' w w') : Five B w' xa xm xk xb xc Da Dk Db D' F Sb S' :=
  ⟨let ⟨S, h1, h2⟩ := h.a; ⟨S, h1.keep g.keep (fun i hi => h.fc i (h2 i hi)), h2⟩, let ⟨S, h1, h2⟩ := h.m; ⟨S, h1.keep g.keep (fun i hi => h.fc i (h2 i hi)), h2⟩, let ⟨S, h1, h2⟩ := h.k; ⟨S, h1.keep g.keep (fun i hi => h.fc i (h2 i hi)), h2⟩,
    h.b.keep g.keep (fun i hi hs => h.bc i hi hs), hd, fun i hi => Nat.lt_of_lt_of_le (h.lt i hi) g.keep.size, h.fb, g.apart h.lt h.fc, g.apart h.b.lt h.bc,
    h.geb, fun i hi => (g.new i hi).elim (h.gec i) (Nat.le_trans h.bel), Nat.le_trans h.bel g.keep.size⟩
end
theorem crash_op (D : DS) (fates : List Int) : (D.crash fates).op = [] := rfl

set_option maxHeartbeats 8000000 in
set_option maxRecDepth 100000 in
theorem law_apart {w : World} {A A1 A2 : Option Addr} {n c n1 c1 n2 c2 : Nat} {cs cs1 : List CallS} {fs : List Int} (h : RC w A n cs) (h1 : RC w A1 n1 cs1) (h2 : RI w A2 n2 fs) :
    Calls Try.prog 5 #[.slice A n c, .slice A1 n1 c1, .slice A2 n2 c2] w fun e w' => e = .returned (.bool true) ∧ Below w.heap.size w w' := by
  have HR := Lib.hid h; clear h
  have HR1 := Lib.hid h1; clear h1
  have HRF := Lib.hid h2; clear h2
  cases hlg : longB cs with
  | true =>
    have HLG := Lib.hid hlg; clear hlg
    go_enter Try.func5, Try.ntmps5
    go_wp2_with fail
    refine (law_awake _).mono ?_
    rintro e w1 ⟨rfl, hb1⟩
    have HB1 := Lib.hid hb1; clear hb1
    go_wp2_with fail
    refine (law_long (HR.out.below HB1.out)).mono ?_
    rw [HLG.out]
    rintro e w2 ⟨rfl, rfl⟩
    go_wp2_with fail
    go_ret
    exact ⟨rfl, HB1.out⟩
  | false =>
    obtain ⟨hn120, _⟩ := longB_no hlg
    rw [HR.out.1] at hn120
    have HLG := Lib.hid hlg; clear hlg
    cases hlg1 : longB cs1 with
    | true =>
      have HLG1 := Lib.hid hlg1; clear hlg1
      go_enter Try.func5, Try.ntmps5
      go_wp2_with fail
      refine (law_awake _).mono ?_
      rintro e w1 ⟨rfl, hb1⟩
      have HB1 := Lib.hid hb1; clear hb1
      go_wp2_with fail
      refine (law_long (HR.out.below HB1.out)).mono ?_
      rw [HLG.out]
      rintro e w2 ⟨rfl, rfl⟩
      go_wp2_with fail
      refine (law_long (HR1.out.below HB1.out)).mono ?_
      rw [HLG1.out]
      rintro e w2 ⟨rfl, rfl⟩
      go_wp2_with fail
      go_ret
      exact ⟨rfl, HB1.out⟩
    | false =>
      obtain ⟨hn121, _⟩ := longB_no hlg1
      rw [HR1.out.1] at hn121
      have HLG1 := Lib.hid hlg1; clear hlg1
      by_cases hf200 : 200 < n2
      · go_enter Try.func5, Try.ntmps5
        go_wp2_with fail
        refine (law_awake _).mono ?_
        rintro e w1 ⟨rfl, hb1⟩
        have HB1 := Lib.hid hb1; clear hb1
        go_wp2_with fail
        refine (law_long (HR.out.below HB1.out)).mono ?_
        rw [HLG.out]
        rintro e w2 ⟨rfl, rfl⟩
        go_wp2_with fail
        refine (law_long (HR1.out.below HB1.out)).mono ?_
        rw [HLG1.out]
        rintro e w2 ⟨rfl, rfl⟩
        go_wp2_with fail
        go_ret
        exact ⟨rfl, HB1.out⟩
      · go_enter Try.func5, Try.ntmps5
        go_wp2_with fail
        refine (law_awake _).mono ?_
        rintro e w1 ⟨rfl, hb1⟩
        have HB1 := Lib.hid hb1; clear hb1
        go_wp2_with fail
        refine (law_long (HR.out.below HB1.out)).mono ?_
        rw [HLG.out]
        rintro e w2 ⟨rfl, rfl⟩
        go_wp2_with fail
        refine (law_long (HR1.out.below HB1.out)).mono ?_
        rw [HLG1.out]
        rintro e w2 ⟨rfl, rfl⟩
        go_wp2_with fail
        -- the five disks
        refine (law_made (HR.out.below HB1.out) (by omega)).mono ?_
        rintro e w3 ⟨xa, rfl, Sa, hda, hba, hsa⟩
        have HA3 := Lib.hid hda; clear hda
        have HSA : Hid (∀ i, Sa i → w1.heap.size ≤ i) := Lib.hid hsa; clear hsa
        have HB3 := Lib.hid (HB1.out.trans (hba.mono HB1.out.size)); clear hba
        go_wp2_with fail
        refine (law_made (HR.out.below HB3.out) (by omega)).mono ?_
        rintro e w4 ⟨xm, rfl, Sm, hdm, hbm, hsm⟩
        have HM4 := Lib.hid hdm; clear hdm
        have HA4 := Lib.hid (HA3.out.below hbm)
        have HSM : Hid (∀ i, Sm i → w3.heap.size ≤ i) := Lib.hid hsm; clear hsm
        have HB4 := Lib.hid (HB3.out.trans (hbm.mono HB3.out.size)); clear hbm
        have hopa : (madeD cs).op.length ≤ 120 := Nat.le_trans (madeD_op _) (by have := HR.out.1; omega)
        generalize madeD cs = Da at *
        go_wp2_with fail
        refine (ds_copy HA4.out (by omega)).mono ?_
        rintro e w5 ⟨xb, rfl, Sb, hdb, hbb, hsb⟩
        have HBD5 := Lib.hid hdb; clear hdb
        have HA5 := Lib.hid (HA4.out.below hbb)
        have HM5 := Lib.hid (HM4.out.below hbb)
        have HSB : Hid (∀ i, Sb i → w4.heap.size ≤ i) := Lib.hid hsb; clear hsb
        have HB5 := Lib.hid (HB4.out.trans (hbb.mono HB4.out.size)); clear hbb
        go_wp2_with fail
        refine (ds_crash HA5.out (by omega) (HRF.out.below HB5.out)).mono ?_
        rintro e w6 ⟨xc, rfl, Sc, hdc, hbc, hsc⟩
        have HC6 := Lib.hid hdc; clear hdc
        have HA6 := Lib.hid (HA5.out.below hbc)
        have HM6 := Lib.hid (HM5.out.below hbc)
        have HBD6 := Lib.hid (HBD5.out.below hbc)
        have HSC : Hid (∀ i, Sc i → w5.heap.size ≤ i) := Lib.hid hsc; clear hsc
        have HB6 := Lib.hid (HB5.out.trans (hbc.mono HB5.out.size)); clear hbc
        have hopc : (Da.crash fs).op.length ≤ 120 := by rw [crash_op]; simp
        generalize hdcr : Da.crash fs = Dc at *
        have HDC := Lib.hid hdcr; clear hdcr
        go_wp2_with fail
        refine (ds_copy HC6.out (by omega)).mono ?_
        rintro e w7 ⟨xk, rfl, Sk, hdk, hbk, hsk⟩
        have hle12 := HB1.out.size
        have HF0 : Hid (Five w.heap.size w7 xa xm xk xb xc Da Dc Da Dc (fun i => Sa i ∨ Sm i ∨ Sk i) Sb Sc) := Lib.hid (by
          have q1 := HA6.out.lt
          have q2 := HM6.out.lt
          have q3 := hdk.lt
          have q4 := HA4.out.lt
          have q5 := HM4.out.lt
          have q6 := HBD5.out.lt
          have q7 := HC6.out.lt
          have p1 := HB1.out.size
          have p3 := HB3.out.size
          have p4 := HB4.out.size
          have p5 := HB5.out.size
          have p6 := hbk.size
          have q8 := HA5.out.lt
          have q9 := HM5.out.lt
          refine ⟨⟨Sa, HA6.out.below hbk, fun i h => .inl h⟩, ⟨Sm, HM6.out.below hbk, fun i h => .inr (.inl h)⟩, ⟨Sk, hdk, fun i h => .inr (.inr h)⟩, HBD6.out.below hbk, HC6.out.below hbk, ?_, ?_, ?_, ?_, ?_, ?_, ?_⟩
          · rintro i (h | h | h)
            · have := q1 i h; omega
            · have := q2 i h; omega
            · exact q3 i h
          · rintro i (h | h | h) hs
            · have := q4 i h; have := HSB.out i hs; omega
            · have := q5 i h; have := HSB.out i hs; omega
            · have := hsk i h; have := HBD6.out.lt i hs; omega
          · rintro i (h | h | h) hs
            · have := q8 i h; have := HSC.out i hs; omega
            · have := q9 i h; have := HSC.out i hs; omega
            · have := hsk i h; have := q7 i hs; omega
          · intro i h hs
            have := q6 i h; have := HSC.out i hs; omega
          · intro i h
            have := HSB.out i h; omega
          · intro i h
            have := HSC.out i h; omega
          · have := HB6.out.size; omega)
        have HW0 : Hid (Below w.heap.size w w7) := Lib.hid (HB6.out.trans (hbk.mono HB6.out.size))
        clear hdk hbk hsk HA3 HSA HB3 HM4 HA4 HSM HB4 HBD5 HA5 HM5 HSB HB5 HC6 HA6 HM6 HBD6 HSC HB6
        go_wp2_with fail
        go_loopw [12] (fun v12 wr => ∃ (k : Nat) (Db D2 : DS) (F T2 T3 : Nat → Prop), k ≤ n1 ∧ v12 = .int .i64 k ∧ Five w.heap.size wr xa xm xk xb xc Da Dc Db D2 F T2 T3 ∧ Below w.heap.size w wr ∧ Db.op.length ≤ 120 + k ∧ D2.op.length ≤ 120 + k) (fun v12 _ => n1 - (intOf v12).toNat)
        case atStart => exact ⟨0, _, _, _, _, _, Nat.zero_le _, rfl, HF0.out, HW0.out, by omega, by omega⟩
        case round =>
          clear HF0 HW0
          rename_i wr
          obtain ⟨k, Db, D2, F, T2, T3, hk, rfl, hf0, hw0, ho2, ho3⟩ := hrel
          have HF0 := Lib.hid hf0; clear hf0
          have HW0 := Lib.hid hw0; clear hw0
          by_cases hlt : k < n1
          · obtain ⟨ad, rfl, hcs0⟩ := HR1.out.2.2 (by omega)
            have hcall := (hcs0 k hlt).below HW0.out
            obtain ⟨g0_0, g1_0, _, g3_0, g4_0, _, r0, r1, r2⟩ := hcall
            have b0 := World.block_lt_of_cell? w _ (hcs0 k hlt).c0
            have HQN : Hid (¬ (w.heap.size ≤ (ad.add (k * 6)).block)) := Lib.hid (by omega)
            clear hcs0 b0
            generalize hcl : cs1.getD k default = cl at *
            have HCL := Lib.hid hcl; clear hcl
            by_cases hk0 : cl.kind = 0
            · rw [hk0] at g0_0
              have hw1 := write_op Db cl.n (dat cl.a cl.b)
              have hw2 := write_op D2 cl.n (dat cl.b cl.a)
              have HK0 := Lib.hid hk0; clear hk0
              go_wp2_with fail
              clear g0_0
              go_region_held3 (fun w' => w'.cell? ⟨(ad.add (k * 6)).block, (ad.add (k * 6)).off + 1, none⟩ = some (.int .i64 cl.n) ∧ w'.cell? ⟨(ad.add (k * 6)).block, (ad.add (k * 6)).off + 3, none⟩ = some (.int .u8 cl.a) ∧ w'.cell? ⟨(ad.add (k * 6)).block, (ad.add (k * 6)).off + 4, none⟩ = some (.int .u8 cl.b)) (go_keep)
                (first
                  | (go_at_call 13; refine (law_data cl.a cl.b _).mono ?_; rintro e u0 ⟨rfl, hbu⟩; have d1_0 : u0.cell? ⟨(ad.add (k * 6)).block, (ad.add (k * 6)).off + 1, none⟩ = some (.int .i64 cl.n) := cell_later hbu g1_0; have d3_0 : u0.cell? ⟨(ad.add (k * 6)).block, (ad.add (k * 6)).off + 3, none⟩ = some (.int .u8 cl.a) := cell_later hbu g3_0; have d4_0 : u0.cell? ⟨(ad.add (k * 6)).block, (ad.add (k * 6)).off + 4, none⟩ = some (.int .u8 cl.b) := cell_later hbu g4_0; have HFd0 := Lib.hid ((HF0.out.below (Below.drew (Below.refl _ _))).below hbu); have HWd0 : Hid (Below w.heap.size w u0) := Lib.hid (HW0.out.drew.trans (hbu.mono HW0.out.size)); clear hbu)
                  | (go_at_call 12; refine (ds_write (by first | exact HFd0.out.b | exact HFd0.out.b.drew) cl.n (dat cl.a cl.b) (by rw [dat_size]; unfold maxLen; omega) (by omega) r1).mono ?_; rintro e v0 ⟨rfl, T0, hdn, hgn⟩; have HF1 := Lib.hid (((by first | exact HFd0.out | exact HFd0.out.below (Below.drew (Below.refl _ _)) : Five _ _ _ _ _ _ _ _ _ _ _ _ _ _)).stepB hdn hgn); have HW1 : Hid (Below w.heap.size w v0) := Lib.hid ((by first | exact HWd0.out | exact HWd0.out.drew : Below w.heap.size w _).trans (hgn.keep.to_below HWd0.out.size HFd0.out.geb)); have g1_1 : v0.cell? ⟨(ad.add (k * 6)).block, (ad.add (k * 6)).off + 1, none⟩ = some (.int .i64 cl.n) := hgn.keep.cell d1_0 (fun h => HQN.out (HFd0.out.geb _ h)); have g3_1 : v0.cell? ⟨(ad.add (k * 6)).block, (ad.add (k * 6)).off + 3, none⟩ = some (.int .u8 cl.a) := hgn.keep.cell d3_0 (fun h => HQN.out (HFd0.out.geb _ h)); have g4_1 : v0.cell? ⟨(ad.add (k * 6)).block, (ad.add (k * 6)).off + 4, none⟩ = some (.int .u8 cl.b) := hgn.keep.cell d4_0 (fun h => HQN.out (HFd0.out.geb _ h)); clear hdn hgn))
              clear g1_0 g3_0 g4_0 d1_0 d3_0 d4_0 HF0 HW0 HFd0 HWd0
              go_wp2_with fail
              go_region_held3 (fun w' => w'.cell? ⟨(ad.add (k * 6)).block, (ad.add (k * 6)).off + 1, none⟩ = some (.int .i64 cl.n) ∧ w'.cell? ⟨(ad.add (k * 6)).block, (ad.add (k * 6)).off + 3, none⟩ = some (.int .u8 cl.a) ∧ w'.cell? ⟨(ad.add (k * 6)).block, (ad.add (k * 6)).off + 4, none⟩ = some (.int .u8 cl.b)) (go_keep)
                (first
                  | (go_at_call 13; refine (law_data cl.b cl.a _).mono ?_; rintro e u1 ⟨rfl, hbu⟩; have d1_1 : u1.cell? ⟨(ad.add (k * 6)).block, (ad.add (k * 6)).off + 1, none⟩ = some (.int .i64 cl.n) := cell_later hbu g1_1; have d3_1 : u1.cell? ⟨(ad.add (k * 6)).block, (ad.add (k * 6)).off + 3, none⟩ = some (.int .u8 cl.a) := cell_later hbu g3_1; have d4_1 : u1.cell? ⟨(ad.add (k * 6)).block, (ad.add (k * 6)).off + 4, none⟩ = some (.int .u8 cl.b) := cell_later hbu g4_1; have HFd1 := Lib.hid ((HF1.out.below (Below.drew (Below.refl _ _))).below hbu); have HWd1 : Hid (Below w.heap.size w u1) := Lib.hid (HW1.out.drew.trans (hbu.mono HW1.out.size)); clear hbu)
                  | (go_at_call 12; refine (ds_write (by first | exact HFd1.out.c | exact HFd1.out.c.drew) cl.n (dat cl.b cl.a) (by rw [dat_size]; unfold maxLen; omega) (by omega) r1).mono ?_; rintro e v1 ⟨rfl, T1, hdn, hgn⟩; have HF2 := Lib.hid (((by first | exact HFd1.out | exact HFd1.out.below (Below.drew (Below.refl _ _)) : Five _ _ _ _ _ _ _ _ _ _ _ _ _ _)).stepC hdn hgn); have HW2 : Hid (Below w.heap.size w v1) := Lib.hid ((by first | exact HWd1.out | exact HWd1.out.drew : Below w.heap.size w _).trans (hgn.keep.to_below HWd1.out.size HFd1.out.gec)); have g1_2 : v1.cell? ⟨(ad.add (k * 6)).block, (ad.add (k * 6)).off + 1, none⟩ = some (.int .i64 cl.n) := hgn.keep.cell d1_1 (fun h => HQN.out (HFd1.out.gec _ h)); have g3_2 : v1.cell? ⟨(ad.add (k * 6)).block, (ad.add (k * 6)).off + 3, none⟩ = some (.int .u8 cl.a) := hgn.keep.cell d3_1 (fun h => HQN.out (HFd1.out.gec _ h)); have g4_2 : v1.cell? ⟨(ad.add (k * 6)).block, (ad.add (k * 6)).off + 4, none⟩ = some (.int .u8 cl.b) := hgn.keep.cell d4_1 (fun h => HQN.out (HFd1.out.gec _ h)); clear hdn hgn))
              clear g1_1 g3_1 g4_1 d1_1 d3_1 d4_1 HF1 HW1 HFd1 HWd1 g1_2 g3_2 g4_2
              have hcall := (HR1.out.2.2 (by omega))
              obtain ⟨ad', had, hcs0⟩ := hcall
              obtain rfl : ad = ad' := by injection had
              have g0 := ((hcs0 k hlt).below HW2.out).c0
              clear hcs0 had
              rw [HCL.out, HK0.out] at g0
              go_wp2_with fail
              go_roundw
              case rel => exact ⟨k + 1, _, _, _, _, _, by omega, by go_num, HF2.out, HW2.out, by omega, by omega⟩
              case measure => simp [intOf]; omega
            · have hk0' : (cl.kind == 0) = false := by simpa using hk0
              clear hk0
              by_cases hk1 : cl.kind = 1
              · rw [hk1] at g0_0 hk0'
                have hw1 := flush_op Db
                have hw2 := flush_op D2
                go_wp2_with fail
                refine (ds_flush HF0.out.b).mono ?_
                rintro e v1 ⟨rfl, T1, hdn, hgn⟩
                have HF1 := Lib.hid (HF0.out.stepB hdn hgn)
                have HW1 : Hid (Below w.heap.size w v1) := Lib.hid (HW0.out.trans (hgn.keep.to_below HW0.out.size HF0.out.geb))
                clear hdn hgn
                go_wp2_with fail
                refine (ds_flush HF1.out.c).mono ?_
                rintro e v2 ⟨rfl, T2, hdn, hgn⟩
                have HF2 := Lib.hid (HF1.out.stepC hdn hgn)
                have HW2 : Hid (Below w.heap.size w v2) := Lib.hid (HW1.out.trans (hgn.keep.to_below HW1.out.size HF1.out.gec))
                clear hdn hgn
                go_wp2_with fail
                go_roundw
                case rel => exact ⟨k + 1, _, _, _, _, _, by omega, by go_num, HF2.out, HW2.out, by omega, by omega⟩
                case measure => simp [intOf]; omega
              · have hk1' : (cl.kind == 1) = false := by simpa using hk1
                clear hk1
                go_wp2_with fail
                go_roundw
                case rel => exact ⟨k + 1, _, _, _, _, _, by omega, by go_num, HF0.out, HW0.out, by omega, by omega⟩
                case measure => simp [intOf]; omega
          · go_wp2_with fail
            clear hlt
            go_loopw [13] (fun v13 wq => ∃ (j : Nat), j ≤ 8 ∧ v13 = .int .i64 j ∧ Five w.heap.size wq xa xm xk xb xc Da Dc Db D2 F T2 T3 ∧ Below w.heap.size w wq) (fun v13 _ => 8 - (intOf v13).toNat)
            case atStart => exact ⟨0, Nat.zero_le _, rfl, HF0.out, HW0.out⟩
            case round =>
              clear HF0 HW0
              rename_i wq
              obtain ⟨j, hj, rfl, hf0, hw0⟩ := hrel
              have HF0 := Lib.hid hf0; clear hf0
              have HW0 := Lib.hid hw0; clear hw0
              obtain ⟨SA, hda, _⟩ := HF0.out.a
              obtain ⟨SM, hdm, _⟩ := HF0.out.m
              have HA0 := Lib.hid hda; clear hda
              have HM0 := Lib.hid hdm; clear hdm
              by_cases hlt : j < 8
              · go_wp2_with fail
                refine (ds_read HA0.out j).mono ?_
                rintro e u1 ⟨rfl, hu⟩
                have HM1 := Lib.hid (HM0.out.below hu)
                have HF1 := Lib.hid (HF0.out.below hu)
                have HW1 := Lib.hid (HW0.out.trans (hu.mono HW0.out.size)); clear hu HF0 HW0 HA0 HM0
                go_wp2_with fail
                refine (ds_read HM1.out j).mono ?_
                rintro e u2 ⟨rfl, hu⟩
                have HF2 := Lib.hid (HF1.out.below hu)
                have HW2 := Lib.hid (HW1.out.trans (hu.mono HW1.out.size)); clear hu HF1 HW1 HM1
                obtain ⟨SA, hda, _⟩ := HF2.out.a
                have HA2 := Lib.hid hda; clear hda
                go_wp2_with fail
                refine (ds_crash HA2.out (by omega) (HRF.out.below HW2.out)).mono ?_
                rw [HDC.out]
                rintro e u3 ⟨y, rfl, SY, hdy, hu, _⟩
                have HY := Lib.hid hdy; clear hdy
                have HF3 := Lib.hid (HF2.out.below hu)
                have HW3 := Lib.hid (HW2.out.trans (hu.mono HW2.out.size)); clear hu HF2 HW2 HA2
                go_wp2_with fail
                refine (ds_read HY.out j).mono ?_
                rintro e u4 ⟨rfl, hu⟩
                have HF4 := Lib.hid (HF3.out.below hu)
                have HW4 := Lib.hid (HW3.out.trans (hu.mono HW3.out.size)); clear hu HF3 HW3 HY
                obtain ⟨SK, hdk, _⟩ := HF4.out.k
                have HK4 := Lib.hid hdk; clear hdk
                go_wp2_with fail
                refine (ds_read HK4.out j).mono ?_
                rintro e u5 ⟨rfl, hu⟩
                have HF5 := Lib.hid (HF4.out.below hu)
                have HW5 := Lib.hid (HW4.out.trans (hu.mono HW4.out.size)); clear hu HF4 HW4 HK4
                go_wp2_with fail
                go_roundw
                case rel => exact ⟨j + 1, by omega, by go_num, HF5.out, HW5.out⟩
                case measure => simp [intOf]; omega
              · go_wp2_with (first
                  | (go_at_call_of 15 (Pa xa); refine (ds_open HA0.out).mono ?_; rintro e w' ⟨rfl, rfl⟩)
                  | (go_at_call_of 15 (Pa xm); refine (ds_open HM0.out).mono ?_; rintro e w' ⟨rfl, rfl⟩)
                  | (go_at_call_of 16 (Pa xa); refine (ds_down HA0.out).mono ?_; rintro e w' ⟨rfl, rfl⟩)
                  | (go_at_call_of 16 (Pa xm); refine (ds_down HM0.out).mono ?_; rintro e w' ⟨rfl, rfl⟩))
                go_ret
                exact ⟨by simp, HW0.out⟩
end Go.Proofs.Ytbgcglojgohjdaa
