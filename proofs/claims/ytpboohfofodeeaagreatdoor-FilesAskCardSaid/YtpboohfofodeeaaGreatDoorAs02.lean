/- ref08: Same (conditions: none). -/
import Derived.Test.YtpboohfofodeeaaGreatDoorM13
import Derived.Laws.StructEq
import Derived.Test.YtpboohfofodeeaaGreatDoorAs01
import Derived.Test.YtpboohfofodeeaaGreatDoorM41
import Derived.Lib.SmallJoins
import Derived.Test.YtpboohfofodeeaaGreatDoorRows
import Derived.Test.YtpboohfofodeeaaGreatDoorTie
import Derived.Test.YtpboohfofodeeaaGreatDoorCards
import Derived.WalkKit
import Derived.ProofKit
import Derived.OpenShut
import Derived.ShutString
import Derived.ChangeOld
import Derived.Below
import Derived.SizedLaws
import Derived.LaidMore
import Derived.Lay
import Derived.SevenTiedAt
import Derived.Stop.Joined
namespace Go.Proofs.YtpboohfofodeeaaGreatDoor
open Go.RowKit Go.Maps
theorem same_ext {l l' : List (ByteArray × ByteArray)} (hl : l.length = l'.length) (h : ∀ j, j < l.length → l[j]? = l'[j]?) : l = l' :=
  List.ext_getElem? fun j => by
    by_cases hj : j < l.length
    · exact h j hj
    · rw [List.getElem?_eq_none (by omega), List.getElem?_eq_none (by omega)]
theorem txt_ne {x y : ByteArray} (h : ¬ x = y) : (x.toList == y.toList) = false := by
  rw [toList_eq, toList_eq]
  cases hb : (x.data.toList == y.data.toList) with
  | false => rfl
  | true => exact absurd (bt_ext (by simpa using hb)) h
def SmeEnds (w : World) (l l' : List (ByteArray × ByteArray)) (e : Ending) (w' : World) : Prop := ((l = l' ∧ e = .returned (.bool true)) ∨ (l ≠ l' ∧ e = .returned (.bool false))) ∧ Below w.heap.size w w'
set_option maxRecDepth 100000 in
set_option maxHeartbeats 4000000 in
theorem ref_same {w : World} {A B : Option Addr} {n m c d : Nat} {l l' : List (ByteArray × ByteArray)} (h : RdI w A n l) (h' : RdI w B m l') (hn : n ≤ 1099511627776) :
    Calls Tryz.prog 16 #[.slice A n c, .slice B m d] w (SmeEnds w l l') := by
  have HLN := Lib.hid h.1
  have HLM := Lib.hid h'.1
  have H := Lib.hid h
  have H' := Lib.hid h'
  clear h h'
  by_cases hnm : n = m
  · subst hnm
    go_enter Tryz.func16, Tryz.ntmps16
    go_wp2
    go_loopw [5] (fun i wr => ∃ k : Nat, k ≤ n ∧ i = .int .i64 k ∧ Below w.heap.size w wr ∧ ∀ j, j < k → l[j]? = l'[j]?) (fun i _ => n - (intOf i).toNat)
    case atStart => exact ⟨0, Nat.zero_le _, rfl, Below.refl _ _, fun j hj => by omega⟩
    case round =>
      obtain ⟨k, hk, rfl, hb, hp⟩ := hrel
      have HP := Lib.hid hp
      have HB := Lib.hid hb
      clear hp hb
      by_cases hlt : k < n
      · obtain ⟨g, o, hl1, rfl, c0, c1⟩ := (H.out.below (Nat.le_refl _) HB.out).at_ hlt
        obtain ⟨g', o', hl2, rfl, d0, d1⟩ := (H'.out.below (Nat.le_refl _) HB.out).at_ hlt
        by_cases he : l[k] = l'[k]
        · have HE := Lib.hid he
          rw [← he] at d0 d1
          clear he
          obtain ⟨x, hx⟩ : ∃ x, l[k] = x := ⟨_, rfl⟩
          have HX := Lib.hid hx
          rw [hx] at c0 c1 d0 d1 HE
          clear hx
          obtain ⟨x0, x1⟩ := x
          simp only at c0 c1 d0 d1
          go_wp2_with fail
          go_quiet (fail)
          go_wp2_with fail
          go_round
          case rel => exact ⟨k + 1, by omega, by go_num, bl_t HB.out (⟨rfl, rfl, rfl, Nat.le_refl _, fun _ _ => rfl⟩), fun j hj => by
            by_cases e : j = k
            · subst e
              rw [List.getElem?_eq_getElem hl1, List.getElem?_eq_getElem hl2, ← HE.out, HX.out]
            · exact HP.out j (by omega)⟩
          case measure => simp [intOf]; omega
        · have HX : Hid (∀ W, Below wr.heap.size wr W → SmeEnds w l l' (.returned (.bool false)) W) := Lib.hid fun W hW => ⟨.inr ⟨fun e => he (by simp [e]), rfl⟩, bl_t HB.out hW⟩
          generalize l[k] = x at *
          generalize l'[k] = y at *
          obtain ⟨x0, x1⟩ := x
          obtain ⟨y0, y1⟩ := y
          simp only at c0 c1 d0 d1
          by_cases h0 : x0 = y0
          · have h1 : ¬ x1 = y1 := fun h1 => he (by rw [h0, h1])
            subst h0
            clear he
            have h1' := txt_ne h1
            go_wp2_with fail
            go_quiet (fail)
            go_wp2_with fail
            go_ret
            exact HX.out _ (⟨rfl, rfl, rfl, Nat.le_refl _, fun _ _ => rfl⟩)
          · have h0' := txt_ne h0
            clear he
            go_wp2_with fail
            go_quiet (fail)
            go_wp2_with fail
            go_ret
            exact HX.out _ (⟨rfl, rfl, rfl, Nat.le_refl _, fun _ _ => rfl⟩)
      · have HE : Hid (SmeEnds w l l' (.returned (.bool true)) wr) := Lib.hid ⟨.inl ⟨same_ext (by rw [HLN.out, HLM.out]) fun j hj => HP.out j (by have := HLN.out; omega), rfl⟩, HB.out⟩
        go_wp2
        go_ret
        exact HE.out
  · have HE : Hid (SmeEnds w l l' (.returned (.bool false)) w) := Lib.hid ⟨.inr ⟨fun e => hnm (by rw [← HLN.out, ← HLM.out, e]), rfl⟩, Below.refl _ _⟩
    have hne : (n != m) = true := by simpa using hnm
    go_enter Tryz.func16, Tryz.ntmps16
    go_wp2
    go_ret
    exact HE.out
end Go.Proofs.YtpboohfofodeeaaGreatDoor
/- law16: FilesAsk (conditions: none; printed by gen_did.py). -/
namespace Go.Proofs.YtpboohfofodeeaaGreatDoor
open Go.RowKit Go.Maps
set_option maxRecDepth 100000 in
set_option maxHeartbeats 16000000 in
theorem law_ask {w : World} {A : Option Addr} {n c : Nat} {ops : List OpA} {go : OpA} (hl : LibV w) (h : RdO w A n ops) (ho : OpInts go) : Calls Tryz.prog 3 #[.slice A n c, .agg #[.int .i64 go.kind, .string go.path, .string go.dest, .string go.name, .int .i64 go.off, .int .i64 go.n, .string go.data]] w fun e w' => e = .returned (.bool true) ∧ Below w.heap.size w w' := by
  have HIN := Lib.hid ho
  have hb0 : Below w.heap.size w (w.alloc (.cells #[.int .i64 go.kind, .string go.path, .string go.dest, .string go.name, .int .i64 go.off, .int .i64 go.n, .string go.data] 24)) := (Below.refl _ _).alloc (Nat.le_refl _) _
  have HOP : Hid (Blk (w.alloc (.cells #[.int .i64 go.kind, .string go.path, .string go.dest, .string go.name, .int .i64 go.off, .int .i64 go.n, .string go.data] 24)) w.heap.size 24 #[.int .i64 go.kind, .string go.path, .string go.dest, .string go.name, .int .i64 go.off, .int .i64 go.n, .string go.data]) := Lib.hid (Blk.new w _ _)
  have HLV := Lib.hid (hl.below hb0)
  have HRO := Lib.hid (h.below hb0)
  have HLEN := Lib.hid h.1
  have HB0 := Lib.hid hb0
  clear hl h ho hb0
  go_enter Tryz.func3, Tryz.ntmps3
  go_upto_region 1 with fail
  generalize w.alloc (.cells #[.int .i64 go.kind, .string go.path, .string go.dest, .string go.name, .int .i64 go.off, .int .i64 go.n, .string go.data] 24) = w0 at *
  obtain ⟨bo, hbo⟩ : ∃ bo, bo = w.heap.size := ⟨_, rfl⟩
  rw [← hbo] at HOP ⊢
  clear hbo
  go_upto_region 3 with (go_at_call 10
                         refine (lw_awake HLV.out).mono ?_
                         rintro e w1 ⟨rfl, hb1⟩
                         have HB1 := Lib.hid hb1
                         clear hb1)
  have HLG : Hid (Calls Tryz.prog 11 #[.slice A n c, .int .i64 40] w1 (LongEnds w1 ops 40)) := Lib.hid (lw_long (c := c) (HRO.out.below HB1.out) 40)
  have HGT : Hid (∀ W, Calls Tryz.prog 12 #[.agg #[.int .i64 go.kind, .string go.path, .string go.dest, .string go.name, .int .i64 go.off, .int .i64 go.n, .string go.data]] W (GreatEnds W go)) := Lib.hid fun W => lw_great go W
  have HO1 := Lib.hid (blk_below HOP.out HB1.out)
  obtain ⟨o0, o1, o2, o3, o4, o5, o6⟩ : w1.cell? ⟨bo, 0, none⟩ = some (.int .i64 go.kind) ∧ w1.cell? ⟨bo, 1, none⟩ = some (.string go.path) ∧ w1.cell? ⟨bo, 2, none⟩ = some (.string go.dest) ∧ w1.cell? ⟨bo, 3, none⟩ = some (.string go.name) ∧ w1.cell? ⟨bo, 4, none⟩ = some (.int .i64 go.off) ∧ w1.cell? ⟨bo, 5, none⟩ = some (.int .i64 go.n) ∧ w1.cell? ⟨bo, 6, none⟩ = some (.string go.data) := ⟨HO1.out.cell 0, HO1.out.cell 1, HO1.out.cell 2, HO1.out.cell 3, HO1.out.cell 4, HO1.out.cell 5, HO1.out.cell 6⟩
  by_cases hg : greatB go = true
  · have HGR := Lib.hid hg
    clear hg
    go_wp2_with (first
      | (go_at_call 11
         refine HLG.out.mono ?_
         rintro e w2 ⟨hb2, rfl | ⟨rfl, hfew, hgr⟩⟩
         all_goals (
           have HB2 := Lib.hid (bl_t HB1.out hb2)
           have HO2 := Lib.hid (blk_below HO1.out hb2)
           obtain ⟨p0, p1, p2, p3, p4, p5, p6⟩ : w2.cell? ⟨bo, 0, none⟩ = some (.int .i64 go.kind) ∧ w2.cell? ⟨bo, 1, none⟩ = some (.string go.path) ∧ w2.cell? ⟨bo, 2, none⟩ = some (.string go.dest) ∧ w2.cell? ⟨bo, 3, none⟩ = some (.string go.name) ∧ w2.cell? ⟨bo, 4, none⟩ = some (.int .i64 go.off) ∧ w2.cell? ⟨bo, 5, none⟩ = some (.int .i64 go.n) ∧ w2.cell? ⟨bo, 6, none⟩ = some (.string go.data) := ⟨HO2.out.cell 0, HO2.out.cell 1, HO2.out.cell 2, HO2.out.cell 3, HO2.out.cell 4, HO2.out.cell 5, HO2.out.cell 6⟩))
      | (go_at_call 12
         refine (HGT.out _).mono ?_
         rintro e w3 ⟨rfl, hb3⟩
         have HB3 := Lib.hid (bl_t HB2.out hb3)
         rw [HGR.out]))
    all_goals go_ret
    all_goals first
      | exact ⟨rfl, bl_t HB0.out HB3.out⟩
      | exact ⟨rfl, bl_t HB0.out HB2.out⟩
  have hg' : greatB go = false := by simpa using hg
  have HGR := Lib.hid hg'
  have HSM := Lib.hid (great_no hg')
  clear hg hg'
  go_upto_region 5 with (first
      | (go_at_call 11
         refine HLG.out.mono ?_
         rintro e w2 ⟨hb2, rfl | ⟨rfl, hfew, hgr⟩⟩
         all_goals (
           have HB2 := Lib.hid (bl_t HB1.out hb2)
           have HO2 := Lib.hid (blk_below HO1.out hb2)
           obtain ⟨p0, p1, p2, p3, p4, p5, p6⟩ : w2.cell? ⟨bo, 0, none⟩ = some (.int .i64 go.kind) ∧ w2.cell? ⟨bo, 1, none⟩ = some (.string go.path) ∧ w2.cell? ⟨bo, 2, none⟩ = some (.string go.dest) ∧ w2.cell? ⟨bo, 3, none⟩ = some (.string go.name) ∧ w2.cell? ⟨bo, 4, none⟩ = some (.int .i64 go.off) ∧ w2.cell? ⟨bo, 5, none⟩ = some (.int .i64 go.n) ∧ w2.cell? ⟨bo, 6, none⟩ = some (.string go.data) := ⟨HO2.out.cell 0, HO2.out.cell 1, HO2.out.cell 2, HO2.out.cell 3, HO2.out.cell 4, HO2.out.cell 5, HO2.out.cell 6⟩))
      | (go_at_call 12
         refine (HGT.out _).mono ?_
         rintro e w3 ⟨rfl, hb3⟩
         have HB3 := Lib.hid (bl_t HB2.out hb3)
         have HO3 := Lib.hid (blk_below HO2.out hb3)
         rw [HGR.out]))
  · go_wp2
    go_ret
    exact ⟨rfl, bl_t HB0.out HB2.out⟩
  have HLW := Lib.hid (HLV.out.below HB3.out)
  have HLG2 : Hid (∀ o ∈ ops, greatB o = false) := Lib.hid hgr
  have hn60 : n ≤ 60 := by have := HLEN.out; omega
  have HRW := Lib.hid (HRO.out.below HB3.out)
  clear p0 p1 p2 p3 p4 p5 p6 o0 o1 o2 o3 o4 o5 o6 hgr hfew HLV
  go_upto_region 6 with (first
      | (go_at_call 13
         refine (lw_made HLW.out HRW.out hn60 HLG2.out).mono ?_
         rintro e wr hM
         obtain ⟨A3, q3, L, fs, rfl, hM⟩ := hM
         have HM := Lib.hid hM
         clear hM))
  have HLV := HLW
  have HL := Lib.hid HM.out.ls
  have HOW := Lib.hid (blk_below HO3.out HL.out.bl)
  obtain ⟨c0, c1, c2, c3, c4, c5, c6⟩ := op_cells HOW.out
  have hblk := HOW.out.lt
  clear HLW
  generalize hm : 2 + n * 5001 = m at HM HL
  clear hm
  go_cut [6, 7] (fun v6 v7 wx => ∃ (A7 : Option Addr) (q7 : Nat) (p7 : AnsP) (l7 : List (ByteArray × ByteArray)) (r : Nat), v6 = .slice A7 l7.length q7 ∧ v7 = .pointer (some ⟨r, 0, none⟩) ∧ Hid (DidAt wr wx r A7 L go p7 l7))
  case first =>
    go_region_held3 (fun w' => w'.cell? ⟨bo, 0, none⟩ = some (.int .i64 go.kind) ∧ w'.cell? ⟨bo, 1, none⟩ = some (.string go.path) ∧ w'.cell? ⟨bo, 2, none⟩ = some (.string go.dest) ∧ w'.cell? ⟨bo, 3, none⟩ = some (.string go.name) ∧ w'.cell? ⟨bo, 4, none⟩ = some (.int .i64 go.off) ∧ w'.cell? ⟨bo, 5, none⟩ = some (.int .i64 go.n) ∧ w'.cell? ⟨bo, 6, none⟩ = some (.string go.data)) (first | go_keep | exact op_cells (box_set (blk_below HOW.out hbv) (fun h => by have := hbu.size; omega)) | exact op_cells (box_set (blk_below HOW.out hbv) (fun h => by simp at h; omega)))
      (first
        | (go_at_call 15
           first
           | (refine (lw_own2 (w := wr.drew) HL.out.rd HL.out.few_).mono ?_
              rintro e u ⟨A5, q5, rfl, hr5, hb5⟩
              have hbu : Below wr.heap.size wr u := (Below.refl _ wr).drew.trans hb5
              obtain ⟨d0, d1, d2, d3, d4, d5, d6⟩ := op_cells (blk_below HOW.out hbu))
           | (have hbx : Below wr.heap.size wr (wr.drew.alloc (.cells #[.int .i64 0, .string ⟨#[]⟩, .slice none 0 0, .slice none 0 0, .int .i64 0, .int .i64 0, .int .i64 0, .int .i64 0, .int .i64 0, .int .i64 0, .string ⟨#[]⟩] 36)) := (Below.refl _ wr).drew.alloc (Nat.le_refl _) _
              refine (lw_own2 (HL.out.below hbx).rd HL.out.few_).mono ?_
              rintro e u ⟨A5, q5, rfl, hr5, hb5⟩
              have hbu : Below wr.heap.size wr u := bl_t hbx hb5
              have hA5 : Blk u wr.heap.size 36 #[.int .i64 0, .string ⟨#[]⟩, .slice none 0 0, .slice none 0 0, .int .i64 0, .int .i64 0, .int .i64 0, .int .i64 0, .int .i64 0, .int .i64 0, .string ⟨#[]⟩] := blk_below (Blk.new wr.drew 36 #[.int .i64 0, .string ⟨#[]⟩, .slice none 0 0, .slice none 0 0, .int .i64 0, .int .i64 0, .int .i64 0, .int .i64 0, .int .i64 0, .int .i64 0, .string ⟨#[]⟩]) hb5
              have hlt5 : wr.heap.size < u.heap.size := hA5.lt
              obtain ⟨d0, d1, d2, d3, d4, d5, d6⟩ := op_cells (blk_below HOW.out hbu)))
        | (go_at_call 14
           first
           | (refine (lw_do hr5 HL.out.it HL.out.itm HL.out.few2 (HLV.out.below (bl_t HL.out.bl hbu)) (o := go) HSM.out HIN.out).mono ?_
              rintro e v hD
              obtain ⟨A7, q7, B5, p5, B6, p6, p7, l7, rfl, hd7, hr7, hn7, hb7⟩ := hD
              have hbv : Below wr.heap.size wr v := bl_t hbu hb7
              obtain ⟨e0, e1, e2, e3, e4, e5, e6⟩ := op_cells (blk_below HOW.out hbv)
              try
                have hA7 := blk_below hA5 hb7
                obtain ⟨z0, z1, z2, z3, z4, z5, z6, z7, z8, z9, z10⟩ := ans_cells (a := ans0) hA7
                obtain ⟨y0, y1, y2, y3, y4, y5, y6, y7, y8, y9, y10⟩ := ans_frozen hA7
                simp only [ans0, zeroND] at z0 z1 z2 z3 z4 z5 z6 z7 z8 z9 z10)
           | (have hbx : Below u.heap.size u (u.alloc (.cells #[.int .i64 0, .string ⟨#[]⟩, .slice none 0 0, .slice none 0 0, .int .i64 0, .int .i64 0, .int .i64 0, .int .i64 0, .int .i64 0, .int .i64 0, .string ⟨#[]⟩] 36)) := (Below.refl _ u).alloc (Nat.le_refl _) _
              have HD := lw_do (q := q5) (hr5.below (Nat.le_refl _) hbx) HL.out.it HL.out.itm HL.out.few2 (HLV.out.below (bl_t (bl_t HL.out.bl hbu) hbx)) (o := go) HSM.out HIN.out
              refine HD.mono ?_
              clear HD
              rintro e v hD
              obtain ⟨A7, q7, B5, p5, B6, p6, p7, l7, rfl, hd7, hr7, hn7, hb7⟩ := hD
              have hbv : Below wr.heap.size wr v := bl_t (bl_t hbu hbx) hb7
              obtain ⟨e0, e1, e2, e3, e4, e5, e6⟩ := op_cells (blk_below HOW.out hbv)
              have hA7 := blk_below (Blk.new u 36 #[.int .i64 0, .string ⟨#[]⟩, .slice none 0 0, .slice none 0 0, .int .i64 0, .int .i64 0, .int .i64 0, .int .i64 0, .int .i64 0, .int .i64 0, .string ⟨#[]⟩]) hb7
              have hlt7 : u.heap.size < (u.alloc (.cells #[.int .i64 0, .string ⟨#[]⟩, .slice none 0 0, .slice none 0 0, .int .i64 0, .int .i64 0, .int .i64 0, .int .i64 0, .int .i64 0, .int .i64 0, .string ⟨#[]⟩] 36)).heap.size := by simp
              obtain ⟨z0, z1, z2, z3, z4, z5, z6, z7, z8, z9, z10⟩ := ans_cells (a := ans0) hA7
              obtain ⟨y0, y1, y2, y3, y4, y5, y6, y7, y8, y9, y10⟩ := ans_frozen hA7
              simp only [ans0, zeroND] at z0 z1 z2 z3 z4 z5 z6 z7 z8 z9 z10)))
    all_goals go_wp2_with fail
    all_goals go_meet
    · exact ⟨A7, q7, p7, l7, v.heap.size, rfl, rfl, Lib.hid (did_new hd7 hr7 hbv)⟩
    · exact ⟨A7, q7, p7, l7, u.heap.size, rfl, rfl, Lib.hid (did_set hd7 hr7 hA7 hlt7 hbu.size hbv)⟩
    · exact ⟨A7, q7, p7, l7, wr.heap.size, rfl, rfl, Lib.hid (did_set hd7 hr7 hA7 hlt5 (Nat.le_refl _) hbv)⟩
  case rest =>
    obtain ⟨A7, q7, p7, l7, r, rfl, rfl, HD⟩ := hcut
    obtain ⟨B5, n5, B6, n6, hA⟩ := HD.out.an
    have hBW := bl_t (bl_t HB3.out HL.out.bl) HD.out.bl
    have HBW := Lib.hid (bl_t HB0.out hBW)
    obtain ⟨k0, _, _, _, _, _, _⟩ := op_cells (blk_below HOW.out HD.out.bl)
    have hst := mid_step HM.out.mid HIN.out HD.out.dor
    have x0 : wc.cell? ⟨r, 0, none⟩ = some (.int .i64 p7.code) := hA.cell 0
    clear c0 c1 c2 c3 c4 c5 c6 hBW
    by_cases hc : p7.code = 0
    · by_cases hk : asksP go
      · have HSA : Hid (Calls Tryz.prog 16 #[.slice A7 l7.length q7, .slice A3 L.length q3] wc (SmeEnds wc l7 L)) := Lib.hid (ref_same HD.out.rd (HL.out.below HD.out.bl).rd (by
          rw [ask_law HM.out.mid HIN.out HD.out.dor hc hk]; exact HL.out.few_))
        have HEQ : Hid (l7 = L) := Lib.hid (ask_law HM.out.mid HIN.out HD.out.dor hc hk)
        rw [hc] at x0
        unfold asksP at hk
        clear hst hA hc
        rcases hk with hko | hko | hko | hko | hko | hko | hko
        all_goals (
          rw [hko] at k0
          clear hko
          go_wp2_with (first
            | (go_at_call 16
               refine HSA.out.mono ?_
               rintro e w9 h9
               obtain ⟨hx, hb9⟩ := h9
               have HB9 := Lib.hid (bl_t HBW.out hb9)
               obtain ⟨_, rfl⟩ | ⟨hne, _⟩ := hx
               rotate_left
               · exact absurd HEQ.out hne))
          go_ret
          exact ⟨rfl, HB9.out⟩)
      · rw [hc] at x0
        have t1 : (go.kind == 9) = false := by unfold asksP at hk; simp; omega
        have t2 : (go.kind == 21) = false := by unfold asksP at hk; simp; omega
        have t3 : (go.kind == 13) = false := by unfold asksP at hk; simp; omega
        have t4 : (go.kind == 15) = false := by unfold asksP at hk; simp; omega
        have t5 : (go.kind == 18) = false := by unfold asksP at hk; simp; omega
        have t6 : (go.kind == 19) = false := by unfold asksP at hk; simp; omega
        have t7 : (go.kind == 20) = false := by unfold asksP at hk; simp; omega
        clear hst hA hc hk
        go_wp2_with fail
        go_ret
        exact ⟨rfl, HBW.out⟩
    · have hn : l7 = [] ∧ p7 = ansP0 p7.code := by
        rcases hst with ⟨_, h⟩ | ⟨h, _⟩
        · exact h
        · exact absurd h hc
      obtain ⟨h1, h2⟩ := hn
      have e1 : p7.data = ⟨#[]⟩ := by rw [h2]; rfl
      have e2 : p7.names.length = 0 := by rw [h2]; rfl
      have e3 : p7.ranges.length = 0 := by rw [h2]; rfl
      have e4 : p7.ino = 0 := by rw [h2]; rfl
      have x1 : wc.cell? ⟨r, 1, none⟩ = some (.string p7.data) := hA.cell 1
      have x2 : wc.cell? ⟨r, 2, none⟩ = some (.slice B5 p7.names.length n5) := hA.cell 2
      have x3 : wc.cell? ⟨r, 3, none⟩ = some (.slice B6 p7.ranges.length n6) := hA.cell 3
      have x4 : wc.cell? ⟨r, 4, none⟩ = some (.int .i64 p7.ino) := hA.cell 4
      rw [e1] at x1
      rw [e2] at x2
      rw [e3] at x3
      rw [e4] at x4
      have h10 : l7.length = 0 := by rw [h1]; rfl
      have hc' : (p7.code != 0) = true := by simpa using hc
      clear hst hA hc h1 h2 e1 e2 e3 e4 HD
      generalize l7.length = z7 at *
      subst h10
      go_wp2_with fail
      go_ret
      exact ⟨rfl, HBW.out⟩
end Go.Proofs.YtpboohfofodeeaaGreatDoor
/- law16: an operation that is handed in by value (conditions: none). -/
namespace Go.Proofs.YtpboohfofodeeaaGreatDoor
open Go.Joins Go.ChangeShapes Go.WideShapes Go.RowKit Go.Deep
section
variable {H : Type} {enc : TypeId × Value → H} {P : Program} {w : World} {base : Nat} {spare : Nat → Bool} {held : Bool}
theorem open_agg7 {r : Reach} {b0 : Nat} {t : TypeId} {f0 f1 f2 f3 f4 f5 f6 : Field} {v : Value} {d : DataW H} {p : List MemPlace} (hs : P.underlying t = some (.struct #[f0, f1, f2, f3, f4, f5, f6])) (hone : oneCellFields P #[f0, f1, f2, f3, f4, f5, f6] = true) (hC : P.cellsOf t = 7)
    (hv : Value.okWide P w r b0 t v) (h : DataW.Trod enc P w base spare held t v d p) :
    ∃ (v0 v1 v2 v3 v4 v5 v6 : Value) (y0 y1 y2 y3 y4 y5 y6 : DataW H × List MemPlace) (n : Nat), v = .agg #[v0, v1, v2, v3, v4, v5, v6] ∧ DataW.trod enc P w base spare held n f0.type [v0] = some y0 ∧ DataW.trod enc P w base spare held n f1.type [v1] = some y1 ∧ DataW.trod enc P w base spare held n f2.type [v2] = some y2 ∧ DataW.trod enc P w base spare held n f3.type [v3] = some y3 ∧ DataW.trod enc P w base spare held n f4.type [v4] = some y4 ∧ DataW.trod enc P w base spare held n f5.type [v5] = some y5 ∧ DataW.trod enc P w base spare held n f6.type [v6] = some y6 := by
  obtain ⟨cs, rfl, hsz⟩ := okWide_struct hs hv
  obtain ⟨l⟩ := cs
  match l, hsz.trans hC with
  | [c0, c1, c2, c3, c4, c5, c6], _ =>
    obtain ⟨fuel, hf⟩ := h
    obtain ⟨xs, n, _, hx, _, hlen, hg⟩ := DataW.trod_struct hs hf
    obtain ⟨o0, k0⟩ := hone_of hone 0 f0 rfl
    obtain ⟨o1, k1⟩ := hone_of hone 1 f1 rfl
    obtain ⟨o2, k2⟩ := hone_of hone 2 f2 rfl
    obtain ⟨o3, k3⟩ := hone_of hone 3 f3 rfl
    obtain ⟨o4, k4⟩ := hone_of hone 4 f4 rfl
    obtain ⟨o5, k5⟩ := hone_of hone 5 f5 rfl
    obtain ⟨o6, k6⟩ := hone_of hone 6 f6 rfl
    match xs, hlen with
    | [y0, y1, y2, y3, y4, y5, y6], _ =>
      exact ⟨c0, c1, c2, c3, c4, c5, c6, y0, y1, y2, y3, y4, y5, y6, n, rfl, by simpa [Value.cells, o0, k0] using hg 0 f0 rfl, by simpa [Value.cells, o1, k1] using hg 1 f1 rfl, by simpa [Value.cells, o2, k2] using hg 2 f2 rfl, by simpa [Value.cells, o3, k3] using hg 3 f3 rfl, by simpa [Value.cells, o4, k4] using hg 4 f4 rfl, by simpa [Value.cells, o5, k5] using hg 5 f5 rfl, by simpa [Value.cells, o6, k6] using hg 6 f6 rfl⟩
end
section
variable {H : Type} {enc : TypeId × Value → H} {w : World} {base : Nat} {v : Value} {d : DataW H} {p : List MemPlace}
set_option maxRecDepth 100000 in
theorem read_op (hv : Value.okWide Tryz.prog w .any base 24 v) (h : DataW.Trod enc Tryz.prog w 0 (fun _ => true) true 24 v d p) :
    ∃ o : OpA, v = .agg #[.int .i64 o.kind, .string o.path, .string o.dest, .string o.name, .int .i64 o.off, .int .i64 o.n, .string o.data] ∧ OpInts o := by
  obtain ⟨v0, v1, v2, v3, v4, v5, v6, y0, y1, y2, y3, y4, y5, y6, n, rfl, t0, t1, t2, t3, t4, t5, t6⟩ := open_agg7 Tryz.underlying24 (by kernel_rfl) (by kernel_rfl) hv h
  obtain ⟨k0, e0, _, r0⟩ := DataW.trod_int Tryz.underlying3 t0
  obtain ⟨s1, e1, _⟩ := DataW.trod_string Tryz.underlying9 t1
  obtain ⟨s2, e2, _⟩ := DataW.trod_string Tryz.underlying9 t2
  obtain ⟨s3, e3, _⟩ := DataW.trod_string Tryz.underlying9 t3
  obtain ⟨k4, e4, _, r4⟩ := DataW.trod_int Tryz.underlying3 t4
  obtain ⟨k5, e5, _, r5⟩ := DataW.trod_int Tryz.underlying3 t5
  obtain ⟨s6, e6, _⟩ := DataW.trod_string Tryz.underlying9 t6
  obtain rfl : v0 = _ := by simpa using e0
  obtain rfl : v1 = _ := by simpa using e1
  obtain rfl : v2 = _ := by simpa using e2
  obtain rfl : v3 = _ := by simpa using e3
  obtain rfl : v4 = _ := by simpa using e4
  obtain rfl : v5 = _ := by simpa using e5
  obtain rfl : v6 = _ := by simpa using e6
  exact ⟨⟨k0, s1, s2, s3, k4, k5, s6⟩, rfl, ⟨i64R_of_wf r4, i64R_of_wf r5⟩⟩
end
end Go.Proofs.YtpboohfofodeeaaGreatDoor
/- FilesAsk: whatever the input it answers true, and its arguments are as they were: the row, and the tied card (conditions: what the row lists, tied to the program's text). -/
namespace Go.Proofs.YtpboohfofodeeaaGreatDoor.filesAsk
open Go.ChangeShapes Go.WideShapes Go.ChangeAt Go.RowKit
theorem own : ownKnob Tryz.prog.godebug = none := by kernel_rfl
theorem laidOut : laidOutB Tryz.prog = true := by kernel_rfl
set_option maxRecDepth 100000 in
theorem lifted (os : Os) (started : os.Started) (H : Type) (enc : TypeId × Value → H) :
    ReturnsInHanded {} Tryz.checked os 3 .any (fun w args => (Rows.filesAskSpec.pre enc Tryz.prog Tryz.f3 Rows.filesAskRow.domain false w args ∧ laidMetH Tryz.prog Rows.filesAskRow.laid w) ∧ sizedMet enc Tryz.prog Tryz.f3 (OpenSpec.ofChange Rows.filesAskSpec) false w args)
      (Rows.filesAskSpec.post enc Tryz.prog Tryz.f3 false true false false) := by
  refine returns_listed (C := Tryz.checked) (X := fun w _ => laidMetH Tryz.prog Rows.filesAskRow.laid w) (fun _ _ _ hh h => h.of_heap hh) own started (by kernel_rfl) Tryz.func3
    (ChangeSpec.witness_shaped (enc := enc) (C := Tryz.checked) (os := os) (X := fun w _ => laidMetH Tryz.prog Rows.filesAskRow.laid w) false (World.laidAll Tryz.prog os Rows.filesAskRow.laid) #[.slice none 0 0, .agg #[.int .i64 0, .string ⟨#[]⟩, .string ⟨#[]⟩, .string ⟨#[]⟩, .int .i64 0, .int .i64 0, .string ⟨#[]⟩]] 8 (World.laidAll_os _ _ _)
      (World.shaped_of_ZipB (by kernel_rfl) (by kernel_rfl)) (by kernel_rfl) (by kernel_rfl) (by kernel_rfl)
      (by rw [MakeChecks.laidMetH_plain _ _ _ (by kernel_rfl)]; exact laidMet_laidAll _ (by kernel_rfl) (by kernel_rfl))) ?_
  intro W base args ds gs before hval0 hW _ _ _ hSh
  have hLV := libv_of hSh
  have hval : ∀ (j : Nat) t v, Tryz.f3.params[j]? = some t → args[j]? = some v → Value.okWide Tryz.prog W .any base t v := hval0
  have hW' := hW
  obtain ⟨p, q, hA0, hV, rfl, hfz, hnd⟩ := hW
  have hA : DataW.TrodAll enc Tryz.prog W 0 (fun _ => true) true Tryz.f3.params.toList args.toList ds p := hA0
  rw [Tryz.params3] at hA hval
  obtain ⟨v0, vs0, d0, ds0, p0, q0, hargs, rfl, rfl, h0, r0⟩ := trodAll_cons hA
  obtain ⟨v1, vs1, d1, ds1, p1, q1, rfl, rfl, rfl, h1, r1⟩ := trodAll_cons r0
  obtain ⟨rfl, rfl, rfl⟩ := trodAll_nil r1
  obtain rfl : args = #[v0, v1] := by cases args; simp_all
  obtain ⟨rfl, rfl⟩ := trodVars_none hV
  obtain ⟨a0, len0, cap0, rfl⟩ := okWide_slice Tryz.underlying22 (hval 0 22 v0 rfl rfl)
  have k0 := h0
  have lt0 : ∀ x ∈ p0, x.block < W.heap.size := by obtain ⟨m, hm⟩ := k0; exact DataW.trod_lt m _ _ _ hm
  obtain ⟨fuel0, hf0⟩ := h0
  obtain ⟨A0, n0, c0, cs0, e0, hr0⟩ := read_ops hf0
  obtain ⟨rfl, rfl, rfl⟩ : a0 = A0 ∧ len0 = n0 ∧ cap0 = c0 := by injection e0 with x y z; exact ⟨x, y, z⟩
  have k1 := h1
  have lt1 : ∀ x ∈ p1, x.block < W.heap.size := by obtain ⟨m, hm⟩ := k1; exact DataW.trod_lt m _ _ _ hm
  obtain ⟨o1, rfl, ho1⟩ := read_op (hval 1 24 v1 rfl rfl) h1
  clear hA0 hval0
  refine (law_ask hLV hr0 ho1).mono fun e W' ⟨he, bel⟩ => ?_
  subst he
  exact ⟨_, rfl, _, _, _, [], _, [], hW', trodAll_mk1 (shut_bool Tryz.underlying4 _), (trodAll_cons_mk (Below.trod laidOut (by kernel_rfl) (of_decide_eq_true (by kernel_rfl)) k0 bel lt0) (trodAll_cons_mk (Below.trod laidOut (by kernel_rfl) (of_decide_eq_true (by kernel_rfl)) k1 bel lt1) trodAll_mk0)), rfl, bel.frame _, fun h => by cases h⟩
theorem over : Rows.filesAskRow.holds Tryz.pinned (OpenSpec.ofChange Rows.filesAskSpec) :=
  OpenClaim.holds_of_wide 3 Tryz.f3 rfl rfl rfl rfl rfl rfl rfl ⟨rfl, rfl, rfl, rfl, rfl⟩ rfl rfl rfl rfl rfl (by kernel_rfl) Tryz.func3 (by kernel_rfl)
    (of_decide_eq_true (by kernel_rfl)) (by unfold Func.isWrapper; first | (rw [if_pos (by decide +kernel)]; kernel_rfl) | (rw [if_neg (by decide +kernel)]; exact ⟨rfl, rfl⟩))
    (fun os started H enc _ => lifted os started H enc)
theorem proved : Rows.FilesAskCardSaid :=
  Claim7.holds_tied_plain_at .later [] [.data, .pinned] true _ false over (fun _ h => by cases h) (by kernel_rfl) (fun _ h => by cases h) filesAsk_row_tie rfl ⟨rfl, rfl⟩ (by kernel_rfl) rfl
    (fun f fn hf hfn => by
      obtain rfl : f = 3 := Option.some.inj ((show Tryz.prog.funcNamed "coppice/coppicelaw16.FilesAsk" = some 3 by kernel_rfl).symm.trans hf) |>.symm
      obtain rfl : fn = Tryz.f3 := (Option.some.inj (Tryz.func3.symm.trans hfn)).symm
      exact ⟨by kernel_rfl, fun j t ht => by
        rw [Tryz.params3] at ht
        have hm : t ∈ [22, 24] := by simpa using Array.mem_of_getElem? ht
        have hall : ([22, 24].all fun u => !Tryz.prog.wantsStandIn u) = true := by kernel_rfl
        exact (show Tryz.prog.wantsStandIn t = false by simpa using List.all_eq_true.1 hall t hm)⟩)
    (by kernel_rfl)
#print axioms proved
end Go.Proofs.YtpboohfofodeeaaGreatDoor.filesAsk
namespace Go.Proofs.YtpboohfofodeeaaGreatDoor
theorem filesAsk_holds : Rows.FilesAskCardSaid := filesAsk.proved
end Go.Proofs.YtpboohfofodeeaaGreatDoor
