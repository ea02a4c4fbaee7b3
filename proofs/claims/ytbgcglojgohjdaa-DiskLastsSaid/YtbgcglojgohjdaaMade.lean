/- 'made': the disk behind the calls of a script (conditions: none). -/
import Derived.Test.YtbgcglojgohjdaaCls
import Derived.Outline
import Derived.Deep.RegionHeld3
namespace Go.Proofs.Ytbgcglojgohjdaa
attribute [local go_sem ↓] Go.wp_at_zero Go.wp_at_succ
open Go.RowKit Go.Maps

def madeStep (D : DS) (c : CallS) : DS :=
  if c.kind = 0 then (D.write c.n (dat c.a c.b)).1 else if c.kind = 1 then D.flush.1 else if c.kind = 3 then D.setPower c.n else D
def madeD (cs : List CallS) : DS := cs.foldl madeStep (DS.new 8)
theorem power_op (D : DS) : D.power.1.op = D.op := by unfold DS.power; split; rfl; split <;> rfl
theorem write_op (D : DS) (n : Int) (s : ByteArray) : (D.write n s).1.op.length ≤ D.op.length + 1 := by
  unfold DS.write
  split
  · rw [power_op]; omega
  · split
    · simp
    · split <;> simp
theorem flush_op (D : DS) : D.flush.1.op.length ≤ D.op.length := by
  unfold DS.flush
  split
  · rw [power_op]; omega
  · simp
theorem madeStep_op (D : DS) (c : CallS) : (madeStep D c).op.length ≤ D.op.length + 1 := by
  unfold madeStep
  split
  · exact write_op ..
  · split
    · have := flush_op D; omega
    · split
      · unfold DS.setPower; split <;> simp
      · omega
theorem madeD_op (cs : List CallS) : (madeD cs).op.length ≤ cs.length := by
  have g : ∀ (cs : List CallS) (D : DS), (cs.foldl madeStep D).op.length ≤ D.op.length + cs.length := by
    intro cs
    induction cs with
    | nil => intro D; simp
    | cons c l ih => intro D; have h1 := ih (madeStep D c); have h2 := madeStep_op D c; simp only [List.foldl_cons, List.length_cons]; omega
  have := g cs (DS.new 8)
  simp only [DS.new, List.length_nil] at this
  unfold madeD
  simp only [DS.new]
  omega
theorem madeD_snoc (cs : List CallS) (k : Nat) (h : k < cs.length) : madeD (cs.take (k + 1)) = madeStep (madeD (cs.take k)) (cs.getD k default) := by
  unfold madeD
  rw [List.take_succ_eq_append_getElem h, List.foldl_append, List.getD_eq_getElem?_getD, List.getElem?_eq_getElem h]
  rfl

set_option maxHeartbeats 4000000 in
set_option maxRecDepth 100000 in
theorem law_made {w : World} {A : Option Addr} {n c : Nat} {cs : List CallS} (h : RC w A n cs) (hn : n ≤ 1000) : Calls Try.prog 10 #[.slice A n c] w (DskNew (madeD cs) w) := by
  have HR := Lib.hid h; clear h
  go_enter Try.func10, Try.ntmps10
  go_wp2_with fail
  refine (ds_new 8 (by omega) (by omega)).mono ?_
  rintro e w3 ⟨x, rfl, S3, hd3, hb3, hs3⟩
  have HD3 := Lib.hid hd3; clear hd3
  have HB3 := Lib.hid hb3; clear hb3
  have HS3 := Lib.hid hs3; clear hs3
  go_wp2_with fail
  go_loopw [5] (fun v5 wr => ∃ (k : Nat) (S : Nat → Prop), k ≤ n ∧ v5 = .int .i64 k ∧ Dsk S wr x (madeD (cs.take k)) ∧ Below w.heap.size w wr ∧ (∀ k, S k → w.heap.size ≤ k)) (fun v5 _ => n - (intOf v5).toNat)
  case atStart => exact ⟨0, S3, Nat.zero_le _, rfl, HD3.out, HB3.out, HS3.out⟩
  case round =>
    clear HD3 HB3 HS3
    rename_i wr
    obtain ⟨k, S, hk, rfl, hd, hb, hs⟩ := hrel
    have HD := Lib.hid hd; clear hd
    have HB := Lib.hid hb; clear hb
    have HS := Lib.hid hs; clear hs
    by_cases hlt : k < n
    · have hop : (madeD (cs.take k)).op.length ≤ k := Nat.le_trans (madeD_op _) (List.length_take_le _ _)
      have hstep := madeD_snoc cs k (by have := HR.out.1; omega)
      obtain ⟨ad, rfl, hcs0⟩ := HR.out.2.2 (by omega)
      have hcall := (hcs0 k hlt).below HB.out
      obtain ⟨c0, c1, c2, c3, c4, _, r0, r1, r2⟩ := hcall
      obtain ⟨o0, o1, o2, o3, o4, _, _, _, _⟩ := hcs0 k hlt
      have b0 := World.block_lt_of_cell? w _ o0
      have hqn : ∀ i, S i → i ≠ (ad.add (k * 6)).block := fun i hi e => by have := HS.out i hi; omega
      have HQN := Lib.hid hqn; clear hqn
      clear hcs0 o0 o1 o2 o3 o4 c2 b0
      generalize cs.getD k default = cl at *
      generalize madeD (cs.take k) = D at *
      have HST := Lib.hid hstep; clear hstep
      by_cases hk0 : cl.kind = 0
      · rw [hk0] at c0
        have hst : (D.write cl.n (dat cl.a cl.b)).1 = madeStep D cl := by unfold madeStep; rw [if_pos hk0]
        have HM := Lib.hid hst; clear hst
        go_wp2_with fail
        go_region_held3 (fun w' => w'.cell? ⟨(ad.add (k * 6)).block, (ad.add (k * 6)).off + 1, none⟩ = some (.int .i64 cl.n) ∧ w'.cell? ⟨(ad.add (k * 6)).block, (ad.add (k * 6)).off + 3, none⟩ = some (.int .u8 cl.a) ∧ w'.cell? ⟨(ad.add (k * 6)).block, (ad.add (k * 6)).off + 4, none⟩ = some (.int .u8 cl.b)) (go_keep)
          (first
            | (go_at_call 13; refine (law_data cl.a cl.b _).mono ?_; rintro e w5 ⟨rfl, hb5⟩; have e1 : w5.cell? ⟨(ad.add (k * 6)).block, (ad.add (k * 6)).off + 1, none⟩ = some (.int .i64 cl.n) := cell_later hb5 c1; have e3 : w5.cell? ⟨(ad.add (k * 6)).block, (ad.add (k * 6)).off + 3, none⟩ = some (.int .u8 cl.a) := cell_later hb5 c3; have e4 : w5.cell? ⟨(ad.add (k * 6)).block, (ad.add (k * 6)).off + 4, none⟩ = some (.int .u8 cl.b) := cell_later hb5 c4; have HD5 : Hid (Dsk S w5 x D) := Lib.hid (HD.out.drew.below hb5); have HB5 : Hid (Below w.heap.size w w5) := Lib.hid (HB.out.drew.trans (hb5.mono HB.out.size)); clear hb5)
            | (go_at_call 12; refine (ds_write (by first | exact HD5.out | exact HD5.out.drew) cl.n (dat cl.a cl.b) (by rw [dat_size]; unfold maxLen; omega) (by omega) r1).mono ?_; rw [HM.out]; rintro e w6 ⟨rfl, S6, hd6, hg6⟩; have HD6 : Hid (Dsk S6 w6 x (madeStep D cl)) := Lib.hid hd6; have HS6 : Hid (∀ k, S6 k → w.heap.size ≤ k) := Lib.hid (fun k hk => by rcases hg6.new k hk with h | h; exact HS.out k h; exact Nat.le_trans HB5.out.size h); have HB6 : Hid (Below w.heap.size w w6) := Lib.hid ((by first | exact HB5.out | exact HB5.out.drew : Below w.heap.size w _).trans (hg6.keep.to_below HB5.out.size HS.out)); have e1' : w6.cell? ⟨(ad.add (k * 6)).block, (ad.add (k * 6)).off + 1, none⟩ = some (.int .i64 cl.n) := hg6.keep.cell e1 (fun h => HQN.out _ h rfl); have e3' : w6.cell? ⟨(ad.add (k * 6)).block, (ad.add (k * 6)).off + 3, none⟩ = some (.int .u8 cl.a) := hg6.keep.cell e3 (fun h => HQN.out _ h rfl); have e4' : w6.cell? ⟨(ad.add (k * 6)).block, (ad.add (k * 6)).off + 4, none⟩ = some (.int .u8 cl.b) := hg6.keep.cell e4 (fun h => HQN.out _ h rfl); clear hd6 hg6))
        clear c1 c3 c4 e1 e3 e4 e1' e3' e4'
        go_wp2_with fail
        go_roundw
        case rel => exact ⟨k + 1, S6, by omega, by go_num, by rw [HST.out]; exact HD6.out, HB6.out, HS6.out⟩
        case measure => simp [intOf]; omega
      · by_cases hk1 : cl.kind = 1
        · rw [hk1] at c0
          have hst : D.flush.1 = madeStep D cl := by unfold madeStep; rw [if_neg hk0, if_pos hk1]
          have HM := Lib.hid hst; clear hst
          go_wp2_with fail
          refine (ds_flush HD.out).mono ?_
          rw [HM.out]
          rintro e w6 ⟨rfl, S6, hd6, hg6⟩
          have HD6 : Hid (Dsk S6 w6 x (madeStep D cl)) := Lib.hid hd6
          have HS6 : Hid (∀ k, S6 k → w.heap.size ≤ k) := Lib.hid (fun k hk => by
            rcases hg6.new k hk with h | h
            · exact HS.out k h
            · exact Nat.le_trans HB.out.size h)
          have HB6 : Hid (Below w.heap.size w w6) := Lib.hid (HB.out.trans (hg6.keep.to_below HB.out.size HS.out))
          clear hd6 hg6
          go_wp2_with fail
          go_roundw
          case rel => exact ⟨k + 1, S6, by omega, by go_num, by rw [HST.out]; exact HD6.out, HB6.out, HS6.out⟩
          case measure => simp [intOf]; omega
        · by_cases hk3 : cl.kind = 3
          · rw [hk3] at c0
            have hst : D.setPower cl.n = madeStep D cl := by unfold madeStep; rw [if_neg hk0, if_neg hk1, if_pos hk3]
            have HM := Lib.hid hst; clear hst
            go_wp2_with fail
            refine (ds_setpower HD.out cl.n).mono ?_
            rw [HM.out]
            rintro e w6 ⟨rfl, S6, hd6, hg6⟩
            have HD6 : Hid (Dsk S6 w6 x (madeStep D cl)) := Lib.hid hd6
            have HS6 : Hid (∀ k, S6 k → w.heap.size ≤ k) := Lib.hid (fun k hk => by
              rcases hg6.new k hk with h | h
              · exact HS.out k h
              · exact Nat.le_trans HB.out.size h)
            have HB6 : Hid (Below w.heap.size w w6) := Lib.hid (HB.out.trans (hg6.keep.to_below HB.out.size HS.out))
            clear hd6 hg6
            go_wp2_with fail
            go_roundw
            case rel => exact ⟨k + 1, S6, by omega, by go_num, by rw [HST.out]; exact HD6.out, HB6.out, HS6.out⟩
            case measure => simp [intOf]; omega
          · have hst : D = madeStep D cl := by unfold madeStep; rw [if_neg hk0, if_neg hk1, if_neg hk3]
            have HM := Lib.hid hst; clear hst
            have hk0' : (cl.kind == 0) = false := by simpa using hk0
            have hk1' : (cl.kind == 1) = false := by simpa using hk1
            have hk3' : (cl.kind == 3) = false := by simpa using hk3
            go_wp2_with fail
            go_roundw
            case rel => exact ⟨k + 1, S, by omega, by go_num, by rw [HST.out, ← HM.out]; exact HD.out, HB.out, HS.out⟩
            case measure => simp [intOf]; omega
    · have hko : cs.take k = cs := by rw [List.take_of_length_le (by have := HR.out.1; omega)]
      have HKO := Lib.hid hko; clear hko
      go_wp2_with fail
      go_ret
      exact ⟨x, rfl, S, by rw [← HKO.out]; exact HD.out, HB.out, HS.out⟩
end Go.Proofs.Ytbgcglojgohjdaa
