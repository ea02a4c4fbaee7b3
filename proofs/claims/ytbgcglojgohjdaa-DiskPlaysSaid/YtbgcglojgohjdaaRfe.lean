/- The reference's disk: Crash, Copy (conditions: the disk is one of its package's make). -/
import Derived.Test.YtbgcglojgohjdaaRfd
import Derived.Test.YtbgcglojgohjdaaApp
namespace Go.Proofs.Ytbgcglojgohjdaa
attribute [local go_sem ↓] Go.wp_at_zero Go.wp_at_succ
open Go.RowKit Go.Maps

theorem oldL_one (fl : Int → Option ByteArray) (n : Nat) : ∀ u ∈ oldL fl n, u.oneCell' = true := by
  intro u hu
  unfold oldL at hu
  obtain ⟨i, _, rfl⟩ := List.mem_map.1 hu
  rfl
theorem crash_take (fl : Int → Option ByteArray) (op : List (Int × ByteArray)) (fates : List Int) (k : Nat) (h : k < op.length) :
    crashFl fl (op.take (k + 1)) fates = if k < fates.length then crashStep (crashFl fl (op.take k) fates) (op[k], fates.getD k 0) else crashFl fl (op.take k) fates := by
  split
  · exact crash_step fl op fates k h (by assumption)
  · rw [crash_end fl op fates (k + 1) (by omega), crash_end fl op fates k (by omega)]

/-- What is left behind k of the open writes. -/
def DC (D : DS) (fates : List Int) (k : Nat) : DS := { DS.new D.size with fl := crashFl D.fl (D.op.take k) fates }
section
variable {S : Nat → Prop} {w : World} {a : Nat} {D : DS}
theorem DC_ok (h : D.WF) (fates : List Int) (k : Nat) : (DC D fates k).OK :=
  ⟨⟨h.s1, h.s2, fun j s hs => by
    have hk := crash_keys fates (D.op.take k) (fun j => 0 ≤ j ∧ j < D.size) (fun x hx => ⟨(h.op x (List.mem_of_mem_take hx)).1, (h.op x (List.mem_of_mem_take hx)).2.1⟩) D.fl (fun j s hs => ⟨(h.fl j s hs).1, (h.fl j s hs).2.1⟩) j s hs
    exact ⟨hk.1, hk.2, crash_sizes fates (D.op.take k) (fun x hx => (h.op x (List.mem_of_mem_take hx)).2.2) D.fl (fun j s hs => (h.fl j s hs).2.2) j s hs⟩, fun _ h => (by cases h)⟩, fun h => (by cases h)⟩
theorem RCells.keep {T : Nat → Prop} {w' : World} {g cg : Nat} {A : Option Addr} {c : Nat} (h : RCells S w a g cg A c D) (hk : Keep T w w') (ha : ∀ k, S k → ¬ T k) : RCells S w' a g cg A c D :=
  ⟨h.ok, fun k hs => Nat.lt_of_lt_of_le (h.lt k hs) hk.size, h.sa, h.sg, h.so, h.b.keep hk (ha _ h.sa), own_keep h.o hk (fun k hk' => by cases hk'; exact ha _ h.sg), own_keep h.p hk (fun k hk' => ha _ (h.so k hk'))⟩
theorem RCells.below {w' : World} {g cg : Nat} {A : Option Addr} {c : Nat} (h : RCells S w a g cg A c D) (hk : Below w.heap.size w w') : RCells S w' a g cg A c D := h.keep (Keep.of_below hk (fun _ => False)) (fun _ _ h => h)

set_option maxHeartbeats 4000000 in
theorem rf_crash (h : Rfd S w a D) (hm : D.op.length ≤ 1000000) {Af : Option Addr} {nf cf : Nat} {fates : List Int} (hfa : RI w Af nf fates) :
    Calls Try.prog 35 #[Pa a, .slice Af nf cf] w (RfdNew (D.crash fates) w) := by
  obtain ⟨i0, hi, hz0, hz1, hz2⟩ := info_parts info_str
  obtain ⟨g, cg, A, c, hc⟩ := h.cells
  have c0 : w.cell? ⟨a, 0, none⟩ = some (.slice (some ⟨g, 0, none⟩) D.size.toNat cg) := hc.b.cell 0
  have c1 : w.cell? ⟨a, 1, none⟩ = some (.slice A D.op.length c) := hc.b.cell 1
  have s1 := hc.ok.wf.s1
  have s2 := hc.ok.wf.s2
  have hsz : D.size.toNat ≤ 4096 := by omega
  have hrd := (Reads.of_own hc.o)
  have HRD := Lib.hid hrd; clear hrd
  have HC := Lib.hid hc; clear hc h
  have HFA := Lib.hid hfa; clear hfa
  have hmpos : 0 < D.size.toNat := by omega
  clear s1 s2
  obtain ⟨m, hmm⟩ : ∃ m, D.size.toNat = m := ⟨_, rfl⟩
  rw [hmm] at c0 hsz HRD hmpos
  have HMM := Lib.hid hmm; clear hmm
  have c0' : (w.alloc (.cells #[] 9)).cell? ⟨a, 0, none⟩ = some (.slice (some ⟨g, 0, none⟩) m cg) := cell_later ((Below.refl _ w).alloc (Nat.le_refl _) _) c0
  go_enter Try.func35, Try.ntmps35
  go_wp2_with (first
    | (at_builtin
       refine wpList_append_any _ rfl _ _ _ rfl w.heap.size 9 i0 (.string ⟨#[]⟩) 1 16 Try.underlying30 hi hz0 hz1 hz2 rfl (by decide) (.slice (some ⟨w.heap.size, 0, none⟩) 0 0) 0 [] rfl
         (World.ownsRow_made w #[] 0 (Nat.le_refl _) (Nat.zero_le _) rfl) w.heap.size (some ⟨g, 0, none⟩) m cg (oldL D.fl m) rfl (HRD.out.alloc (Nat.le_refl _) _) (oldL_one _ _) (by unfold maxLen; omega) (by omega) (by simp) ?_
       intro v1 w1 hown1 hg1 hat1
       have hb1 : Below w.heap.size w w1 := ((Below.refl _ _).alloc (Nat.le_refl _) _).grown hg1 (by simp) (fun k hk => by cases hk; exact Nat.le_refl _)
       obtain ⟨A1, q1, rfl⟩ := own_slice hown1
       have HO1 := Lib.hid hown1; clear hown1
       have HB1 := Lib.hid hb1; clear hb1 hg1 hat1))
  obtain ⟨g1, q1', hv, hg1, hg2⟩ := HO1.out.form (by omega)
  obtain ⟨rfl, rfl⟩ : A1 = some ⟨g1, 0, none⟩ ∧ q1 = q1' := by injection hv with h1 _ h3; exact ⟨h1, h3⟩
  have hx0 : RCells (fun i => i = w1.heap.size ∨ i = g1) (w1.alloc (.cells #[.slice (some ⟨g1, 0, none⟩) m q1, .slice none 0 0, .int .i64 (-1), .bool false] 68)) w1.heap.size g1 q1 none 0 (DC D fates 0) :=
    ⟨DC_ok HC.out.ok.wf fates 0, by
      rintro k (rfl | rfl)
      · simp
      · simp; omega, .inl rfl, .inr rfl, fun k hk => by simp [Value.ownBlock] at hk, by
      rw [show (DC D fates 0).size.toNat = m from HMM.out]; exact Blk.new w1 _ _, by
      rw [show (DC D fates 0).size.toNat = m from HMM.out, show (DC D fates 0).fl = D.fl from rfl]
      have := own_base HO1.out (base' := 0) (fun _ _ => Nat.zero_le _)
      rw [Nat.zero_add, List.nil_append] at this
      exact this.alloc _, World.ownsRow_nil _ _ _ _⟩
  have hbx : Below w.heap.size w (w1.alloc (.cells #[.slice (some ⟨g1, 0, none⟩) m q1, .slice none 0 0, .int .i64 (-1), .bool false] 68)) := HB1.out.alloc HB1.out.size _
  have HX0 := Lib.hid hx0; clear hx0
  have HBX := Lib.hid hbx; clear hbx
  have hxge := HB1.out.size
  clear hv HO1 HRD c0 c0'
  generalize w1.alloc (.cells #[.slice (some ⟨g1, 0, none⟩) m q1, .slice none 0 0, .int .i64 (-1), .bool false] 68) = w2 at *
  generalize w1.heap.size = x at *
  go_loopw [6] (fun v6 wr => ∃ k : Nat, k ≤ D.op.length ∧ v6 = .int .i64 k ∧ RCells (fun i => i = x ∨ i = g1) wr x g1 q1 none 0 (DC D fates k) ∧ Below w.heap.size w wr) (fun v6 _ => D.op.length - (intOf v6).toNat)
  case atStart => exact ⟨0, Nat.zero_le _, rfl, HX0.out, HBX.out⟩
  case round =>
    clear HX0 HBX
    rename_i wr
    obtain ⟨k, hk, rfl, hr, hb⟩ := hrel
    have HB := Lib.hid hb; clear hb
    have d1 := cell_later HB.out c1
    by_cases hlt : k < D.op.length
    · obtain ⟨gp, cap, hv, _⟩ := HC.out.p.form (by omega)
      obtain ⟨rfl, rfl⟩ : A = some ⟨gp, 0, none⟩ ∧ c = cap := by injection hv with h1 _ h3; exact ⟨h1, h3⟩
      have q0 := HC.out.p.cellAt (k * 2) (by omega)
      have qq := HC.out.p.cellAt (k * 2 + 1) (by omega)
      obtain ⟨hn, hdt⟩ := wrs_at D.op k hlt
      rw [hn] at q0
      rw [hdt] at qq
      replace q0 := cell_later HB.out q0
      replace qq := cell_later HB.out qq
      clear hn hdt hv
      have hin := HC.out.ok.wf.op _ (List.getElem_mem hlt)
      have hstep := crash_take D.fl D.op fates k hlt
      have hsz3 := (DC_ok HC.out.ok.wf fates k).wf.fl
      obtain ⟨y, hy⟩ : ∃ y : Nat, (D.op[k]).1 = (y : Int) := ⟨(D.op[k]).1.toNat, by omega⟩
      have hpair : D.op[k] = ((y : Int), (D.op[k]).2) := by rw [← hy]
      generalize (D.op[k]).2 = s at *
      rw [hpair] at hstep
      rw [hy] at q0 hin
      clear hy hpair
      obtain ⟨hin1, hin2, hss⟩ := hin
      have hym : y < m := by have := HMM.out; omega
      have HR := Lib.hid hr; clear hr
      have HSZ3 := Lib.hid hsz3; clear hsz3
      have HST := Lib.hid hstep; clear hstep
      have HSS := Lib.hid hss; clear hss
      clear hin1 hin2
      have hnxt : Hid ((k : Int) < nf ∨ ¬ (k : Int) < nf) := Lib.hid (Decidable.em _)
      clear hnxt
      by_cases hkf : k < nf
      · obtain ⟨hfl, hfm, hfc⟩ := HFA.out
        obtain ⟨ad, rfl, hcell⟩ := hfc (by omega)
        have qf := cell_later HB.out (hcell k hkf)
        have HST2 : Hid (crashFl D.fl (D.op.take (k + 1)) fates = crashStep (crashFl D.fl (D.op.take k) fates) (((y : Int), s), fates.getD k 0)) := Lib.hid (by rw [HST.out, if_pos (by omega)])
        clear hfc hcell hfl HST
        generalize fates.getD k 0 = f at *
        have HR2 := Lib.hid (HR.out.below ((Below.refl _ wr).alloc (Nat.le_refl _) (.cells #[.int .i64 (y : Int), .string s] 76)))
        have HB2 := Lib.hid (HB.out.alloc HB.out.size (.cells #[.int .i64 (y : Int), .string s] 76))
        have hvb := heap_alloc_new wr (.cells #[.int .i64 (y : Int), .string s] 76)
        by_cases hf1 : f = 1
        · subst hf1
          go_wp2_with fail
          generalize wr.alloc (.cells #[.int .i64 (y : Int), .string s] 76) = w3 at *
          generalize wr.heap.size = vb at *
          have cv0 : w3.cell? ⟨vb, 0, none⟩ = some (.int .i64 y) := cell_of_row _ _ _ _ _ (0, 0) hvb
          have cv1 : w3.cell? ⟨vb, 1, none⟩ = some (.string s) := cell_of_row _ _ _ _ _ (0, 0) hvb
          have cx0 : w3.cell? ⟨x, 0, none⟩ = some (.slice (some ⟨g1, 0, none⟩) m q1) := by rw [← HMM.out]; exact HR2.out.b.cell 0
          have cs : w3.cell? ⟨g1, y, none⟩ = some (.string ((crashFl D.fl (D.op.take k) fates (y : Int)).getD zb)) := by
            have := HR2.out.o.cellAt y (by show y < D.size.toNat * 1; rw [HMM.out]; omega)
            rw [this]
            exact oldL_at _ _ _ (by show y < D.size.toNat; rw [HMM.out]; exact hym)
          have fs := HR2.out.o.frozenAt y
          clear hvb
          generalize (crashFl D.fl (D.op.take k) fates (y : Int)).getD zb = s0 at *
          go_still_tail 9, (by kernel_rfl)
          go_wp2_with fail
          refine ⟨⟨k + 1, by omega, by go_num, ?_, ?_⟩, by simp [intOf]; omega⟩
          · have hset := HR2.out.setOld y (by show y < D.size.toNat; rw [HMM.out]; exact hym) s HSS.out
            have e : ({ DC D fates k with fl := upd (DC D fates k).fl (y : Int) s } : DS) = DC D fates (k + 1) := by
              unfold DC
              rw [HST2.out]
              simp [crashStep]
            rw [e] at hset
            exact hset.below (Below.drew (Below.refl _ _))
          · exact (Below.setCell HB2.out hg1 _).drew
        · by_cases hf2 : 1 < f
          · have hf1' : (f == 1) = false := by simpa using hf1
            go_wp2_with fail
            generalize wr.alloc (.cells #[.int .i64 (y : Int), .string s] 76) = w3 at *
            generalize wr.heap.size = vb at *
            have cv0 : w3.cell? ⟨vb, 0, none⟩ = some (.int .i64 y) := cell_of_row _ _ _ _ _ (0, 0) hvb
            have cv1 : w3.cell? ⟨vb, 1, none⟩ = some (.string s) := cell_of_row _ _ _ _ _ (0, 0) hvb
            have cx0 : w3.cell? ⟨x, 0, none⟩ = some (.slice (some ⟨g1, 0, none⟩) m q1) := by rw [← HMM.out]; exact HR2.out.b.cell 0
            have cs : w3.cell? ⟨g1, y, none⟩ = some (.string ((crashFl D.fl (D.op.take k) fates (y : Int)).getD zb)) := by
              have := HR2.out.o.cellAt y (by show y < D.size.toNat * 1; rw [HMM.out]; omega)
              rw [this]
              exact oldL_at _ _ _ (by show y < D.size.toNat; rw [HMM.out]; exact hym)
            have fs := HR2.out.o.frozenAt y
            clear hvb
            have hs0 : ((crashFl D.fl (D.op.take k) fates (y : Int)).getD zb).size = 1024 := by
              cases hq : crashFl D.fl (D.op.take k) fates (y : Int) with
              | none => exact zb_size
              | some t => exact (HSZ3.out _ t hq).2.2
            generalize hs0e : (crashFl D.fl (D.op.take k) fates (y : Int)).getD zb = s0 at *
            have HS0E := Lib.hid hs0e; clear hs0e
            have HS0 := Lib.hid hs0; clear hs0
            have hq0 : 0 ≤ f % 1024 := by omega
            have hq1 : f % 1024 ≤ 1023 := by omega
            generalize hq : f % 1024 = q at *
            have HQ := Lib.hid hq; clear hq
            have hs1 := fun W => run_slice_string_h (P := Try.prog) W 9 s Try.underlying9 .i64 q hq0 (by have := HSS.out; omega)
            have hs2 := fun W => run_slice_string_l (P := Try.prog) W 9 s0 Try.underlying9 .i64 q hq0 (by have := HS0.out; omega)
            have hs3 : ∀ W, (Op.stringOp .add (s.extract 0 q.toNat) (s0.extract q.toNat s0.size)).run Try.prog W = .ok (.string (torn s s0 q.toNat)) W := fun W => run_string_add_sum W _ _ (by rw [ByteArray.size_extract, ByteArray.size_extract]; have := HS0.out; have := HSS.out; omega)
            go_still_tail 22, (by kernel_rfl)
            clear hs1 hs2 hs3
            go_wp2_with fail
            refine ⟨⟨k + 1, by omega, by go_num, ?_, ?_⟩, by simp [intOf]; omega⟩
            · have hset := HR2.out.setOld y (by show y < D.size.toNat; rw [HMM.out]; exact hym) (torn s s0 q.toNat) (torn_size _ _ _ HSS.out HS0.out (by omega))
              have e : ({ DC D fates k with fl := upd (DC D fates k).fl (y : Int) (torn s s0 q.toNat) } : DS) = DC D fates (k + 1) := by
                unfold DC
                rw [HST2.out]
                simp [crashStep, hf1, hf2, HS0E.out, HQ.out]
              rw [e] at hset
              exact hset.below (Below.drew (Below.refl _ _))
            · exact (Below.setCell HB2.out hg1 _).drew
          · have hf1' : (f == 1) = false := by simpa using hf1
            go_wp2_with fail
            go_roundw
            case rel =>
              refine ⟨k + 1, by omega, by go_num, ?_, HB2.out⟩
              have e : DC D fates k = DC D fates (k + 1) := by
                unfold DC
                rw [HST2.out]
                simp [crashStep, hf1, hf2]
              rw [← e]
              exact HR2.out
            case measure => simp [intOf]; omega
      · have HST2 : Hid (crashFl D.fl (D.op.take (k + 1)) fates = crashFl D.fl (D.op.take k) fates) := Lib.hid (by rw [HST.out, if_neg (by have := HFA.out.1; omega)])
        clear HST
        have HR2 := Lib.hid (HR.out.below ((Below.refl _ wr).alloc (Nat.le_refl _) (.cells #[.int .i64 (y : Int), .string s] 76)))
        have HB2 := Lib.hid (HB.out.alloc HB.out.size (.cells #[.int .i64 (y : Int), .string s] 76))
        go_wp2_with fail
        go_roundw
        case rel =>
          refine ⟨k + 1, by omega, by go_num, ?_, HB2.out⟩
          have e : DC D fates k = DC D fates (k + 1) := by
            unfold DC
            rw [HST2.out]
          rw [← e]
          exact HR2.out
        case measure => simp [intOf]; omega
    · have hko : DC D fates k = D.crash fates := by unfold DC DS.crash; rw [List.take_of_length_le (by omega)]
      have HKO := Lib.hid hko; clear hko
      have HR := Lib.hid hr; clear hr
      go_wp2_with fail
      go_ret
      refine ⟨x, rfl, _, by rw [← HKO.out]; exact HR.out.rfd, HB.out, ?_⟩
      rintro i (rfl | rfl)
      · exact hxge
      · exact hg1

end
end Go.Proofs.Ytbgcglojgohjdaa
