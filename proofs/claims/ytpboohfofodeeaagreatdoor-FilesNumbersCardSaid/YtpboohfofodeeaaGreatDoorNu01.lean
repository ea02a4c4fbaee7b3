/- law16: FilesNumbers (conditions: none; printed by gen_did.py). -/
import Derived.Test.YtpboohfofodeeaaGreatDoorM40
import Derived.Test.YtpboohfofodeeaaGreatDoorM41
import Derived.Test.YtpboohfofodeeaaGreatDoorRows
import Derived.Test.YtpboohfofodeeaaGreatDoorTie
import Derived.Test.YtpboohfofodeeaaGreatDoorCards
import Derived.WalkKit
import Derived.ProofKit
import Derived.OpenShut
import Derived.ShutString
import Derived.ChangeOld
import Derived.Below
import Derived.SizedLaws
import Derived.LaidMore
import Derived.Lay
import Derived.SevenTiedAt
import Derived.Stop.Joined
namespace Go.Proofs.YtpboohfofodeeaaGreatDoor
open Go.RowKit Go.Maps
/-- The list under way: its files' next number is one more than the last that was given. -/
structure NumAt (w wr : World) (m : Nat) (A : Option Addr) (L : List (ByteArray × ByteArray)) (fs : FS) : Prop where
  ls : LsAt w wr m A L fs
  num : numOk fs.next
set_option maxRecDepth 100000 in
set_option maxHeartbeats 16000000 in
theorem law_numbers {w : World} {A : Option Addr} {n c : Nat} {ops : List OpA} (hl : LibV w) (h : RdO w A n ops) : Calls Tryz.prog 5 #[.slice A n c] w fun e w' => e = .returned (.bool true) ∧ Below w.heap.size w w' := by
  have HLV := Lib.hid hl
  have HRO := Lib.hid h
  have HLEN := Lib.hid h.1
  clear hl h
  go_enter Tryz.func5, Tryz.ntmps5
  go_upto_region 3 with (go_at_call 10
                         refine (lw_awake HLV.out).mono ?_
                         rintro e w1 ⟨rfl, hb1⟩
                         have HB1 := Lib.hid hb1
                         clear hb1)
  have HLG : Hid (Calls Tryz.prog 11 #[.slice A n c, .int .i64 60] w1 (LongEnds w1 ops 60)) := Lib.hid (lw_long (c := c) (HRO.out.below HB1.out) 60)
  go_upto_region 5 with (first
    | (go_at_call 11
       refine HLG.out.mono ?_
       rintro e w2 ⟨hb2, rfl | ⟨rfl, hfew, hgr⟩⟩))
  · go_wp2
    go_ret
    exact ⟨rfl, bl_t HB1.out hb2⟩
  have HB2 := Lib.hid (bl_t HB1.out hb2)
  have HGR := Lib.hid hgr
  have hn60 : n ≤ 60 := by have := HLEN.out; omega
  clear hb2 hgr hfew HB1 HLG
  go_wp2_with (go_at_call 17
               refine (fl_new _).mono ?_
               rintro e w3 hI
               obtain ⟨hb3, v3, R3, L3, he3, hR1, hR2, hR3, hR4, hR5⟩ := hI
               obtain ⟨A3, q3, rfl⟩ := own_slice hR5
               subst he3
               have HM3 : Hid (NumAt w w3 (2 + 0 * 5001) A3 L3 fsRoot) := Lib.hid ⟨⟨it_row hR5 rfl, ⟨R3, hR1, hR2, hR3, hR4⟩, root_itm, by omega, bl_t HB2.out hb3⟩, ⟨by decide, by decide⟩⟩
               clear hb3 hR1 hR2 hR3 hR4 hR5)
  go_loopw [3, 4, 5] (fun v3 v4 v5 wr => ∃ (k : Nat) (A3 : Option Addr) (q3 : Nat) (L : List (ByteArray × ByteArray)) (fs : FS), k ≤ n ∧ v5 = .int .i64 k ∧ v3 = .slice A3 L.length q3 ∧ v4 = .int .i64 (fs.next - 1) ∧ Hid (NumAt w wr (2 + k * 5001) A3 L fs)) (fun _ _ v5 _ => n - (intOf v5).toNat)
  case atStart => exact ⟨0, A3, q3, L3, fsRoot, Nat.zero_le _, rfl, rfl, rfl, HM3⟩
  case round =>
    clear HM3
    obtain ⟨k, A3, q3, L, fs, hk, rfl, rfl, rfl, HM⟩ := hrel
    by_cases hlt : k < n
    · obtain ⟨ad, rfl, hcs⟩ := (HRO.out.below HM.out.ls.bl).2.2 (by omega)
      obtain ⟨c0, c1, c2, c3, c4, c5, c6, hints⟩ := hcs k hlt
      clear hcs
      have hmem : ops.getD k default ∈ ops := by
        rw [List.getD_eq_getElem?_getD, List.getElem?_eq_getElem (by have := HLEN.out; omega)]
        exact List.getElem_mem _
      have hsm := great_no (HGR.out _ hmem)
      clear hmem
      obtain ⟨lst, hlst⟩ : ∃ lst, lst = fs.next - 1 := ⟨_, rfl⟩
      have HLST := Lib.hid hlst
      have hb40 : 1 ≤ lst ∧ lst ≤ 1099511627776 := by have := HM.out.num; unfold numOk at this; omega
      rw [← hlst]
      clear hlst
      generalize ops.getD k default = go at *
      have HSM := Lib.hid hsm
      have HIN := Lib.hid hints
      have HL := Lib.hid HM.out.ls
      clear hsm hints
      have hblk := World.block_lt_of_cell? wr _ c0
      go_wp2_with fail
      go_cut [6, 7] from 13 to 48 (fun v6 v7 wx => ∃ (A7 : Option Addr) (q7 : Nat) (p7 : AnsP) (l7 : List (ByteArray × ByteArray)) (r : Nat), v6 = .slice A7 l7.length q7 ∧ v7 = .pointer (some ⟨r, 0, none⟩) ∧ Hid (DidAt wr wx r A7 L go p7 l7))
      case first =>
        go_region_held3 (fun w' => w'.cell? (ad.add (k * 7)) = some (.int .i64 go.kind) ∧ w'.cell? ⟨(ad.add (k * 7)).block, (ad.add (k * 7)).off + 1, none⟩ = some (.string go.path) ∧ w'.cell? ⟨(ad.add (k * 7)).block, (ad.add (k * 7)).off + 2, none⟩ = some (.string go.dest) ∧ w'.cell? ⟨(ad.add (k * 7)).block, (ad.add (k * 7)).off + 3, none⟩ = some (.string go.name) ∧ w'.cell? ⟨(ad.add (k * 7)).block, (ad.add (k * 7)).off + 4, none⟩ = some (.int .i64 go.off) ∧ w'.cell? ⟨(ad.add (k * 7)).block, (ad.add (k * 7)).off + 5, none⟩ = some (.int .i64 go.n) ∧ w'.cell? ⟨(ad.add (k * 7)).block, (ad.add (k * 7)).off + 6, none⟩ = some (.string go.data)) (first | go_keep | exact (IsOpC.set (w := v) ⟨e0, e1, e2, e3, e4, e5, e6⟩ (fun h => by have := hbu.size; omega)).all | exact (IsOpC.set (w := v) ⟨e0, e1, e2, e3, e4, e5, e6⟩ (fun h => by simp at h; omega)).all)
          (first
            | (go_at_call 15
               first
               | (refine (lw_own2 (w := wr.drew) HL.out.rd HL.out.few_).mono ?_
                  rintro e u ⟨A5, q5, rfl, hr5, hb5⟩
                  have hbu : Below wr.heap.size wr u := (Below.refl _ wr).drew.trans hb5
                  obtain ⟨d0, d1, d2, d3, d4, d5, d6⟩ := IsOpC.below (w := wr) (o := go) ⟨c0, c1, c2, c3, c4, c5, c6⟩ hbu)
               | (have hbx : Below wr.heap.size wr (wr.drew.alloc (.cells #[.int .i64 0, .string ⟨#[]⟩, .slice none 0 0, .slice none 0 0, .int .i64 0, .int .i64 0, .int .i64 0, .int .i64 0, .int .i64 0, .int .i64 0, .string ⟨#[]⟩] 36)) := (Below.refl _ wr).drew.alloc (Nat.le_refl _) _
                  refine (lw_own2 (HL.out.below hbx).rd HL.out.few_).mono ?_
                  rintro e u ⟨A5, q5, rfl, hr5, hb5⟩
                  have hbu : Below wr.heap.size wr u := bl_t hbx hb5
                  have hA5 : Blk u wr.heap.size 36 #[.int .i64 0, .string ⟨#[]⟩, .slice none 0 0, .slice none 0 0, .int .i64 0, .int .i64 0, .int .i64 0, .int .i64 0, .int .i64 0, .int .i64 0, .string ⟨#[]⟩] := blk_below (Blk.new wr.drew 36 #[.int .i64 0, .string ⟨#[]⟩, .slice none 0 0, .slice none 0 0, .int .i64 0, .int .i64 0, .int .i64 0, .int .i64 0, .int .i64 0, .int .i64 0, .string ⟨#[]⟩]) hb5
                  have hlt5 : wr.heap.size < u.heap.size := hA5.lt
                  obtain ⟨d0, d1, d2, d3, d4, d5, d6⟩ := IsOpC.below (w := wr) (o := go) ⟨c0, c1, c2, c3, c4, c5, c6⟩ hbu))
            | (go_at_call 14
               first
               | (refine (lw_do hr5 HL.out.it HL.out.itm HL.out.few2 (HLV.out.below (bl_t HL.out.bl hbu)) (o := go) HSM.out HIN.out).mono ?_
                  rintro e v hD
                  obtain ⟨A7, q7, B5, p5, B6, p6, p7, l7, rfl, hd7, hr7, hn7, hb7⟩ := hD
                  have hbv : Below wr.heap.size wr v := bl_t hbu hb7
                  obtain ⟨e0, e1, e2, e3, e4, e5, e6⟩ := IsOpC.below (w := wr) (o := go) ⟨c0, c1, c2, c3, c4, c5, c6⟩ hbv
                  try
                    have hA7 := blk_below hA5 hb7
                    obtain ⟨z0, z1, z2, z3, z4, z5, z6, z7, z8, z9, z10⟩ := ans_cells (a := ans0) hA7
                    obtain ⟨y0, y1, y2, y3, y4, y5, y6, y7, y8, y9, y10⟩ := ans_frozen hA7
                    simp only [ans0, zeroND] at z0 z1 z2 z3 z4 z5 z6 z7 z8 z9 z10)
               | (have hbx : Below u.heap.size u (u.alloc (.cells #[.int .i64 0, .string ⟨#[]⟩, .slice none 0 0, .slice none 0 0, .int .i64 0, .int .i64 0, .int .i64 0, .int .i64 0, .int .i64 0, .int .i64 0, .string ⟨#[]⟩] 36)) := (Below.refl _ u).alloc (Nat.le_refl _) _
                  have HD := lw_do (q := q5) (hr5.below (Nat.le_refl _) hbx) HL.out.it HL.out.itm HL.out.few2 (HLV.out.below (bl_t (bl_t HL.out.bl hbu) hbx)) (o := go) HSM.out HIN.out
                  refine HD.mono ?_
                  clear HD
                  rintro e v hD
                  obtain ⟨A7, q7, B5, p5, B6, p6, p7, l7, rfl, hd7, hr7, hn7, hb7⟩ := hD
                  have hbv : Below wr.heap.size wr v := bl_t (bl_t hbu hbx) hb7
                  obtain ⟨e0, e1, e2, e3, e4, e5, e6⟩ := IsOpC.below (w := wr) (o := go) ⟨c0, c1, c2, c3, c4, c5, c6⟩ hbv
                  have hA7 := blk_below (Blk.new u 36 #[.int .i64 0, .string ⟨#[]⟩, .slice none 0 0, .slice none 0 0, .int .i64 0, .int .i64 0, .int .i64 0, .int .i64 0, .int .i64 0, .int .i64 0, .string ⟨#[]⟩]) hb7
                  have hlt7 : u.heap.size < (u.alloc (.cells #[.int .i64 0, .string ⟨#[]⟩, .slice none 0 0, .slice none 0 0, .int .i64 0, .int .i64 0, .int .i64 0, .int .i64 0, .int .i64 0, .int .i64 0, .string ⟨#[]⟩] 36)).heap.size := by simp
                  obtain ⟨z0, z1, z2, z3, z4, z5, z6, z7, z8, z9, z10⟩ := ans_cells (a := ans0) hA7
                  obtain ⟨y0, y1, y2, y3, y4, y5, y6, y7, y8, y9, y10⟩ := ans_frozen hA7
                  simp only [ans0, zeroND] at z0 z1 z2 z3 z4 z5 z6 z7 z8 z9 z10)))
        all_goals go_wp2_with fail
        all_goals go_meet
        · exact ⟨A7, q7, p7, l7, v.heap.size, rfl, rfl, Lib.hid (did_new hd7 hr7 hbv)⟩
        · exact ⟨A7, q7, p7, l7, u.heap.size, rfl, rfl, Lib.hid (did_set hd7 hr7 hA7 hlt7 hbu.size hbv)⟩
        · exact ⟨A7, q7, p7, l7, wr.heap.size, rfl, rfl, Lib.hid (did_set hd7 hr7 hA7 hlt5 (Nat.le_refl _) hbv)⟩
      case rest =>
        obtain ⟨A7, q7, p7, l7, r, rfl, rfl, HD⟩ := hcut
        obtain ⟨B5, n5, B6, n6, hA⟩ := HD.out.an
        have x0 : wc.cell? ⟨r, 0, none⟩ = some (.int .i64 p7.code) := hA.cell 0
        have x4 : wc.cell? ⟨r, 4, none⟩ = some (.int .i64 p7.ino) := hA.cell 4
        have k0 : wc.cell? (ad.add (k * 7)) = some (.int .i64 go.kind) := keepc' HD.out.bl c0
        clear hA c0 c1 c2 c3 c4 c5 c6
        have hst := num_step HM.out.ls.it HM.out.num HD.out.dor
        by_cases hc : p7.code = 0
        · have hst2 : ∃ fs', ItemsOf fs' l7 ∧ Itm (L.length + 5001) fs' ∧ numOk fs'.next ∧ (makesP go → p7.ino = fs.next ∧ fs'.next = fs.next + 1) ∧ (¬ makesP go → fs'.next = fs.next) := by
            rcases hst with ⟨h, _⟩ | ⟨_, h⟩
            · exact absurd hc h
            · exact h
          obtain ⟨fs', s1, s2, s3, s4, s5⟩ := hst2
          have hfew := (items_few HM.out.ls.itm HM.out.ls.it).1
          have HN : Hid (NumAt w wc (2 + (k + 1) * 5001) A7 l7 fs') := Lib.hid ⟨⟨HD.out.rd, s1, s2.mono (by omega), by omega, bl_t HM.out.ls.bl HD.out.bl⟩, s3⟩
          have HC := Lib.hid hc
          rw [hc] at x0
          clear hst hc s1 s2 s3 hfew
          by_cases hmk : makesP go
          · obtain ⟨i1, i2⟩ := s4 hmk
            have hi1 : p7.ino = lst + 1 := by rw [i1, HLST.out]; omega
            rw [hi1] at x4
            have HNX : Hid (fs'.next - 1 = lst + 1) := Lib.hid (by rw [i2, HLST.out]; omega)
            have hw : IntKind.i64.wrap (lst + 1) = lst + 1 := by rw [IntKind.wrap_i64]; omega
            clear s4 s5 i1 i2 hi1
            unfold makesP at hmk
            rcases hmk with hko | hko | hko
            all_goals (
              have HKO := Lib.hid hko
              rw [hko] at k0
              clear hko
              go_wp2_with fail
              go_round
              case rel => exact ⟨k + 1, A7, q7, l7, fs', by omega, by go_num, rfl, by rw [HNX.out], HN⟩
              case measure => simp [intOf]; omega)
          · have HNX : Hid (fs'.next - 1 = lst) := Lib.hid (by rw [s5 hmk, HLST.out])
            have h1 : (go.kind == 1) = false := by unfold makesP at hmk; simp; omega
            have h2 : (go.kind == 2) = false := by unfold makesP at hmk; simp; omega
            have h3 : (go.kind == 3) = false := by unfold makesP at hmk; simp; omega
            clear s4 s5 hmk
            go_wp2_with fail
            go_round
            case rel => exact ⟨k + 1, A7, q7, l7, fs', by omega, by go_num, rfl, by rw [HNX.out], HN⟩
            case measure => simp [intOf]; omega
        · have HN : Hid (NumAt w wc (2 + (k + 1) * 5001) A3 L fs) := Lib.hid ⟨⟨(HM.out.ls.below HD.out.bl).rd, HM.out.ls.it, HM.out.ls.itm.mono (by omega), by omega, bl_t HM.out.ls.bl HD.out.bl⟩, HM.out.num⟩
          have hc' : (p7.code != 0) = true := by simpa using hc
          clear hst hc
          go_wp2_with fail
          go_round
          case rel => exact ⟨k + 1, A3, q3, L, fs, by omega, by go_num, rfl, by rw [HLST.out], HN⟩
          case measure => simp [intOf]; omega
    · have HB := Lib.hid HM.out.ls.bl
      go_wp2
      go_ret
      exact ⟨rfl, HB.out⟩
end Go.Proofs.YtpboohfofodeeaaGreatDoor
/- FilesNumbers: whatever the input it answers true, and its arguments are as they were: the row, and the tied card (conditions: what the row lists, tied to the program's text). -/
namespace Go.Proofs.YtpboohfofodeeaaGreatDoor.filesNumbers
open Go.ChangeShapes Go.WideShapes Go.ChangeAt Go.RowKit
theorem own : ownKnob Tryz.prog.godebug = none := by kernel_rfl
theorem laidOut : laidOutB Tryz.prog = true := by kernel_rfl
set_option maxRecDepth 100000 in
theorem lifted (os : Os) (started : os.Started) (H : Type) (enc : TypeId × Value → H) :
    ReturnsInHanded {} Tryz.checked os 5 .any (fun w args => (Rows.filesNumbersSpec.pre enc Tryz.prog Tryz.f5 Rows.filesNumbersRow.domain false w args ∧ laidMetH Tryz.prog Rows.filesNumbersRow.laid w) ∧ sizedMet enc Tryz.prog Tryz.f5 (OpenSpec.ofChange Rows.filesNumbersSpec) false w args)
      (Rows.filesNumbersSpec.post enc Tryz.prog Tryz.f5 false true false false) := by
  refine returns_listed (C := Tryz.checked) (X := fun w _ => laidMetH Tryz.prog Rows.filesNumbersRow.laid w) (fun _ _ _ hh h => h.of_heap hh) own started (by kernel_rfl) Tryz.func5
    (ChangeSpec.witness_shaped (enc := enc) (C := Tryz.checked) (os := os) (X := fun w _ => laidMetH Tryz.prog Rows.filesNumbersRow.laid w) false (World.laidAll Tryz.prog os Rows.filesNumbersRow.laid) #[.slice none 0 0] 8 (World.laidAll_os _ _ _)
      (World.shaped_of_ZipB (by kernel_rfl) (by kernel_rfl)) (by kernel_rfl) (by kernel_rfl) (by kernel_rfl)
      (by rw [MakeChecks.laidMetH_plain _ _ _ (by kernel_rfl)]; exact laidMet_laidAll _ (by kernel_rfl) (by kernel_rfl))) ?_
  intro W base args ds gs before hval0 hW _ _ _ hSh
  have hLV := libv_of hSh
  have hval : ∀ (j : Nat) t v, Tryz.f5.params[j]? = some t → args[j]? = some v → Value.okWide Tryz.prog W .any base t v := hval0
  have hW' := hW
  obtain ⟨p, q, hA0, hV, rfl, hfz, hnd⟩ := hW
  have hA : DataW.TrodAll enc Tryz.prog W 0 (fun _ => true) true Tryz.f5.params.toList args.toList ds p := hA0
  rw [Tryz.params5] at hA hval
  obtain ⟨v0, vs0, d0, ds0, p0, q0, hargs, rfl, rfl, h0, r0⟩ := trodAll_cons hA
  obtain ⟨rfl, rfl, rfl⟩ := trodAll_nil r0
  obtain rfl : args = #[v0] := by cases args; simp_all
  obtain ⟨rfl, rfl⟩ := trodVars_none hV
  obtain ⟨a0, len0, cap0, rfl⟩ := okWide_slice Tryz.underlying22 (hval 0 22 v0 rfl rfl)
  have k0 := h0
  have lt0 : ∀ x ∈ p0, x.block < W.heap.size := by obtain ⟨m, hm⟩ := k0; exact DataW.trod_lt m _ _ _ hm
  obtain ⟨fuel0, hf0⟩ := h0
  obtain ⟨A0, n0, c0, cs0, e0, hr0⟩ := read_ops hf0
  obtain ⟨rfl, rfl, rfl⟩ : a0 = A0 ∧ len0 = n0 ∧ cap0 = c0 := by injection e0 with x y z; exact ⟨x, y, z⟩
  clear hA0 hval0
  refine (law_numbers hLV hr0).mono fun e W' ⟨he, bel⟩ => ?_
  subst he
  exact ⟨_, rfl, _, _, _, [], _, [], hW', trodAll_mk1 (shut_bool Tryz.underlying4 _), (trodAll_cons_mk (Below.trod laidOut (by kernel_rfl) (of_decide_eq_true (by kernel_rfl)) k0 bel lt0) trodAll_mk0), rfl, bel.frame _, fun h => by cases h⟩
theorem over : Rows.filesNumbersRow.holds Tryz.pinned (OpenSpec.ofChange Rows.filesNumbersSpec) :=
  OpenClaim.holds_of_wide 5 Tryz.f5 rfl rfl rfl rfl rfl rfl rfl ⟨rfl, rfl, rfl, rfl, rfl⟩ rfl rfl rfl rfl rfl (by kernel_rfl) Tryz.func5 (by kernel_rfl)
    (of_decide_eq_true (by kernel_rfl)) (by unfold Func.isWrapper; first | (rw [if_pos (by decide +kernel)]; kernel_rfl) | (rw [if_neg (by decide +kernel)]; exact ⟨rfl, rfl⟩))
    (fun os started H enc _ => lifted os started H enc)
theorem proved : Rows.FilesNumbersCardSaid :=
  Claim7.holds_tied_plain_at .later [] [.data, .pinned] true _ false over (fun _ h => by cases h) (by kernel_rfl) (fun _ h => by cases h) filesNumbers_row_tie rfl ⟨rfl, rfl⟩ (by kernel_rfl) rfl
    (fun f fn hf hfn => by
      obtain rfl : f = 5 := Option.some.inj ((show Tryz.prog.funcNamed "coppice/coppicelaw16.FilesNumbers" = some 5 by kernel_rfl).symm.trans hf) |>.symm
      obtain rfl : fn = Tryz.f5 := (Option.some.inj (Tryz.func5.symm.trans hfn)).symm
      exact ⟨by kernel_rfl, fun j t ht => by
        rw [Tryz.params5] at ht
        have hm : t ∈ [22] := by simpa using Array.mem_of_getElem? ht
        have hall : ([22].all fun u => !Tryz.prog.wantsStandIn u) = true := by kernel_rfl
        exact (show Tryz.prog.wantsStandIn t = false by simpa using List.all_eq_true.1 hall t hm)⟩)
    (by kernel_rfl)
#print axioms proved
end Go.Proofs.YtpboohfofodeeaaGreatDoor.filesNumbers
namespace Go.Proofs.YtpboohfofodeeaaGreatDoor
theorem filesNumbers_holds : Rows.FilesNumbersCardSaid := filesNumbers.proved
end Go.Proofs.YtpboohfofodeeaaGreatDoor
