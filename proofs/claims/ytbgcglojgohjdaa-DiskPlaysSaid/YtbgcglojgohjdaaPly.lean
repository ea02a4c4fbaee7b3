/- DiskPlays: whatever is called in whatever order, a disk answers as the document says (conditions: none). -/
import Derived.Test.YtbgcglojgohjdaaStp
namespace Go.Proofs.Ytbgcglojgohjdaa
attribute [local go_sem ↓] Go.wp_at_zero Go.wp_at_succ
open Go.RowKit Go.Maps

theorem IsCall.at_ {w : World} {A : Option Addr} {n : Nat} {cs : List CallS} (h : RC w A n cs) (k : Nat) (hk : k < n) : ∃ ad, A = some ad ∧ IsCall w (ad.add (k * 6)) (cs.getD k default) := by
  obtain ⟨ad, e, hc⟩ := h.2.2 (by omega)
  exact ⟨ad, e, hc k hk⟩

set_option maxHeartbeats 4000000 in
set_option maxRecDepth 100000 in
theorem law_plays {w : World} {A : Option Addr} {n c : Nat} {cs : List CallS} {sectors : Int} (hs : i64r sectors) (h : RC w A n cs) : Calls Try.prog 6 #[.int .i64 sectors, .slice A n c] w fun e w' => e = .returned (.bool true) ∧ Below w.heap.size w w' := by
  obtain ⟨hs1, hs2⟩ := hs
  have HR := Lib.hid h; clear h
  cases hlg : longB cs with
  | true =>
    have HLG := Lib.hid hlg; clear hlg
    go_enter Try.func6, Try.ntmps6
    go_wp2_with fail
    refine (law_awake _).mono ?_
    rintro e w1 ⟨rfl, hb1⟩
    have HB1 := Lib.hid hb1; clear hb1
    go_wp2_with fail
    refine (law_long (HR.out.below HB1.out)).mono ?_
    rw [HLG.out]
    rintro e w2 ⟨rfl, rfl⟩
    go_wp2_with fail
    go_ret
    exact ⟨rfl, HB1.out⟩
  | false =>
    obtain ⟨hn120, _⟩ := longB_no hlg
    rw [HR.out.1] at hn120
    have HLG := Lib.hid hlg; clear hlg
    by_cases hbig : 64 < sectors ∧ sectors ≤ 4096
    · obtain ⟨hb64, hb4⟩ := hbig
      go_enter Try.func6, Try.ntmps6
      go_wp2_with fail
      refine (law_awake _).mono ?_
      rintro e w1 ⟨rfl, hb1⟩
      have HB1 := Lib.hid hb1; clear hb1
      go_wp2_with fail
      refine (law_long (HR.out.below HB1.out)).mono ?_
      rw [HLG.out]
      rintro e w2 ⟨rfl, rfl⟩
      go_wp2_with fail
      go_ret
      exact ⟨rfl, HB1.out⟩
    · by_cases hbad : sectors < 1 ∨ 4096 < sectors
      · by_cases hb64 : 64 < sectors
        · have hb4 : 4096 < sectors := by omega
          have HBAD := Lib.hid hbad; clear hbad hbig
          go_enter Try.func6, Try.ntmps6
          go_wp2_with fail
          refine (law_awake _).mono ?_
          rintro e w1 ⟨rfl, hb1⟩
          have HB1 := Lib.hid hb1; clear hb1
          go_wp2_with fail
          refine (law_long (HR.out.below HB1.out)).mono ?_
          rw [HLG.out]
          rintro e w2 ⟨rfl, rfl⟩
          go_wp2_with (first
            | (go_at_call 17; refine (dk_new_bad _ _ HBAD.out).mono ?_; rintro e w' ⟨rfl, rfl⟩)
            | (go_at_call 21; refine (rf_new_bad _ _ HBAD.out).mono ?_; rintro e w' ⟨rfl, rfl⟩))
          go_ret
          exact ⟨rfl, HB1.out⟩
        · have HBAD := Lib.hid hbad; clear hbad hbig
          go_enter Try.func6, Try.ntmps6
          go_wp2_with fail
          refine (law_awake _).mono ?_
          rintro e w1 ⟨rfl, hb1⟩
          have HB1 := Lib.hid hb1; clear hb1
          go_wp2_with fail
          refine (law_long (HR.out.below HB1.out)).mono ?_
          rw [HLG.out]
          rintro e w2 ⟨rfl, rfl⟩
          go_wp2_with (first
            | (go_at_call 17; refine (dk_new_bad _ _ HBAD.out).mono ?_; rintro e w' ⟨rfl, rfl⟩)
            | (go_at_call 21; refine (rf_new_bad _ _ HBAD.out).mono ?_; rintro e w' ⟨rfl, rfl⟩))
          go_ret
          exact ⟨rfl, HB1.out⟩
      · have hb64 : ¬ 64 < sectors := by omega
        have hs3 : 1 ≤ sectors := by omega
        obtain ⟨m, rfl⟩ : ∃ m : Nat, sectors = (m : Int) := ⟨sectors.toNat, by omega⟩
        clear hbad hbig
        go_enter Try.func6, Try.ntmps6
        go_wp2_with fail
        refine (law_awake _).mono ?_
        rintro e w1 ⟨rfl, hb1⟩
        have HB1 := Lib.hid hb1; clear hb1
        go_wp2_with fail
        refine (law_long (HR.out.below HB1.out)).mono ?_
        rw [HLG.out]
        rintro e w2 ⟨rfl, rfl⟩
        go_wp2_with fail
        refine (ds_new (m : Int) (by omega) (by omega)).mono ?_
        rintro e w3 ⟨xd, rfl, Sd, hd3, hb3, hs3'⟩
        have HD3 := Lib.hid hd3; clear hd3
        have HSD : Hid (∀ i, Sd i → w1.heap.size ≤ i) := Lib.hid hs3'
        have HB3 := Lib.hid (HB1.out.trans (hb3.mono HB1.out.size))
        have HZ3 := Lib.hid hb3.size; clear hb3 hs3'
        go_wp2_with fail
        refine (rf_new m _ (by omega) (by omega)).mono ?_
        rintro e w4 ⟨xm, rfl, Sm, hm4, hb4, hs4⟩
        have HB4 := Lib.hid (HB3.out.trans (hb4.mono HB3.out.size))
        have HT4 : Hid (Two w.heap.size w4 xd xm (DS.new m) Sd Sm) := Lib.hid ⟨HD3.out.below hb4, hm4, fun i hi hs => (by have := HD3.out.lt i hi; have := hs4 i hs; omega), fun i hi => Nat.le_trans HB1.out.size (HSD.out i hi), fun i hi => Nat.le_trans HB3.out.size (hs4 i hi), HB4.out.size⟩
        clear hm4 hb4 hs4 HD3 HSD HB3 HZ3
        go_wp2_with fail
        go_loopw [5, 7, 9] (fun v5 v7 v9 wr => ∃ (k yd ym : Nat) (D : DS) (T1 T2 : Nat → Prop), k ≤ n ∧ v9 = .int .i64 k ∧ v5 = Pa yd ∧ v7 = Pa ym ∧ Two w.heap.size wr yd ym D T1 T2 ∧ D.op.length ≤ k ∧ Below w.heap.size w wr) (fun _ _ v9 _ => n - (intOf v9).toNat)
        case atStart => exact ⟨0, xd, xm, _, _, _, Nat.zero_le _, rfl, rfl, rfl, HT4.out, by simp [DS.new], HB4.out⟩
        case round =>
          clear HT4 HB4
          rename_i wr
          obtain ⟨k, yd, ym, D, T1, T2, hk, rfl, rfl, rfl, ht, hop, hb⟩ := hrel
          have HT := Lib.hid ht; clear ht
          have HB := Lib.hid hb; clear hb
          by_cases hlt : k < n
          · obtain ⟨ad, rfl, hcall⟩ := IsCall.at_ (HR.out.below HB.out) k hlt
            obtain ⟨g0, g1, g2, g3, g4, ⟨Af, cap, g5, hri⟩, r0, r1, r2⟩ := hcall
            generalize cs.getD k default = cl at *
            have HRI := Lib.hid hri; clear hri
            have HR0 := Lib.hid r0; clear r0
            have HR1 := Lib.hid r1; clear r1
            have HR2 := Lib.hid r2; clear r2
            go_wp2_with fail
            refine (law_step HT.out (by omega) HRI.out HR0.out HR1.out HR2.out).mono ?_
            rintro e w5 ⟨zd, zm, D', U1, U2, rfl, ht5, hop5, hb5⟩
            have HT5 := Lib.hid ht5; clear ht5
            have HB5 := Lib.hid (HB.out.trans hb5); clear hb5
            go_wp2_with fail
            refine (law_same HT5.out (by omega)).mono ?_
            rintro e w6 ⟨rfl, hb6⟩
            have HT6 := Lib.hid (HT5.out.below hb6)
            have HB6 := Lib.hid (HB5.out.trans (hb6.mono HB5.out.size)); clear hb6
            go_wp2_with fail
            go_roundw
            case rel => exact ⟨k + 1, zd, zm, D', U1, U2, by omega, by go_num, rfl, rfl, HT6.out, by omega, HB6.out⟩
            case measure => simp [intOf]; omega
          · go_wp2_with fail
            refine (law_same HT.out (by omega)).mono ?_
            rintro e w6 ⟨rfl, hb6⟩
            have HB6 := Lib.hid (HB.out.trans (hb6.mono HB.out.size)); clear hb6
            go_wp2_with fail
            go_ret
            exact ⟨rfl, HB6.out⟩
end Go.Proofs.Ytbgcglojgohjdaa
