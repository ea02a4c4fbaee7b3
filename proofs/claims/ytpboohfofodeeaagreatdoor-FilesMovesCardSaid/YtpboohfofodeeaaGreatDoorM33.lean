/- files: does (conditions: none; printed by gen_does.py). -/
import Derived.Test.YtpboohfofodeeaaGreatDoorM31
import Derived.Test.YtpboohfofodeeaaGreatDoorM28
namespace Go.Proofs.YtpboohfofodeeaaGreatDoor
open Go.RowKit Go.Maps
set_option maxRecDepth 100000 in
set_option maxHeartbeats 160000000 in
theorem does_b [Fence] {c : Nat} {w : World} {f b m : Nat} {own : Int → Own} {fs : FS} (h : FlsB c w f b m own fs) (ok : FsOk fs) (hlv : LibV w) (o : OpA) (hz : OpSmall o) (ho : OpInts o) (hc : c ≤ 137438953472) (hks : o.kind = 8 ∨ o.kind = 9 ∨ o.kind = 10 ∨ o.kind = 11 ∨ o.kind = 21) (R : WR) (hRR : walkS fs o.path (followsB o.kind) = R)  :
 Calls Tryz.prog 30 #[wkV f,o.val] w (DoesEnds c w f b m fs o):=by
 rcases hks with hko | hko | hko | hko | hko
 all_goals (
  have hat:=da_at w f o
  have hbx:=da_box w f o
  have hF:=h.below hat.bl
  have hLV:=hlv.below hat.bl
  first | (have hfo : followsB o.kind = false:=by rw [hko]; rfl) | (have hfo : followsB o.kind = true:=by rw [hko]; rfl)
  have HW:=Lib.hid (fw_walk hF ok.right ok.good hLV o.path (followsB o.kind) (by have:=hz.path; omega))
  rw [hRR,hfo] at HW
  have HRR:=Lib.hid hRR
  have hwok:=walk_ok ok.right h.wf o.path (followsB o.kind)
  have HWF : Hid (WfG fs):=Lib.hid h.wf
  rw [hRR] at hwok
  have HWOK:=Lib.hid hwok
  unfold wkV OpA.val OpA.cs
  unfold wkV spotC at HW
  have HKO:=Lib.hid hko
  clear h hko hRR hfo hwok
  go_enter Tryz.func30,Tryz.ntmps30
  go_upto_region 1 with fail
  generalize (((w.alloc (.cells #[Pa f] 78)).alloc (.cells #[.int .i64 o.kind,.string o.path,.string o.dest,.string o.name,.int .i64 o.off,.int .i64 o.n,.string o.data] 24)).alloc (.cells #[.int .i64 0,.string ⟨#[]⟩,.slice none 0 0,.slice none 0 0,.int .i64 0,.int .i64 0,.int .i64 0,.int .i64 0,.int .i64 0,.int .i64 0,.string ⟨#[]⟩] 36)) = w1 at *
  have hko:=HKO.out
  obtain ⟨r,hr⟩ : ∃ r,r = w.heap.size + 1 + 1:=⟨_,rfl⟩
  rw [← hr] at hat ⊢
  have HR:=Lib.hid hr
  clear hr
  have d0 : w1.cell? ⟨w.heap.size,0,none⟩ = some (Pa f):=hbx.cell 0
  obtain ⟨o0,o1,-,-,-,-,-⟩:=oc7 hat.op
  have HAT:=Lib.hid hat
  have HF:=Lib.hid hF
  have HBX:=Lib.hid hbx
  have HA1:=Lib.hid hat.an
  have HLV:=Lib.hid hLV
  have hrge : w.heap.size ≤ r:=by rw [HR.out]; omega
  rw [hko] at o0
  clear hat hF hbx hLV
  go_upto_region 13 with (
   go_at_call 53
   refine HW.out.mono ?_
   rintro e w2 ⟨rfl,hb2⟩
   have hb3 : Below w1.heap.size w1 (w2.alloc (.cells #[.int .i64 R.dir,.string R.name,.int .i64 R.ino] 119)):=hb2.alloc hb2.size _
   have HB3:=Lib.hid (bl_t HAT.out.bl hb3)
   have HA3:=Lib.hid (blk_below HA1.out hb3)
   have HF3:=Lib.hid (HF.out.below hb3)
   have HBX3:=Lib.hid (blk_below HBX.out hb3)
   have HO3:=Lib.hid (blk_below HAT.out.op hb3)
   have HLV3:=Lib.hid (HLV.out.below hb3)
   have hs3:=Blk.new w2 119 #[.int .i64 R.dir,.string R.name,.int .i64 R.ino]
   obtain ⟨sp,hsp⟩ : ∃ sp,sp = w2.heap.size:=⟨_,rfl⟩
   rw [← hsp] at hs3
   have HS3:=Lib.hid hs3
   have HSP:=Lib.hid hsp
   clear hb2 hb3 hs3 hsp)
  rw [← HSP.out]
  generalize (w2.alloc (.cells #[.int .i64 R.dir,.string R.name,.int .i64 R.ino] 119)) = w3 at *
  clear d0 o0 o1 HF HBX HA1 HW HLV
  have d0 : w3.cell? ⟨w.heap.size,0,none⟩ = some (Pa f):=HBX3.out.cell 0
  obtain ⟨o0,o1,o2,o3,o4,o5,o6⟩:=oc7 HO3.out
  rw [hko] at o0
  obtain ⟨s0,s1,s2⟩:=sc3 HS3.out
  have HK3 : Hid (KeepF w w3):=Lib.hid (KeepF.of_below HB3.out)
  by_cases h0 : R.code = 0
  case neg=>
   obtain ⟨z0,z1,z2,z3,z4,z5,z6,z7,z8,z9,z10⟩:=ans_cells HA3.out
   obtain ⟨r0,r1,r2,r3,r4,r5,r6,r7,r8,r9,r10⟩:=ans_frozen HA3.out
   simp only [ans0,zeroND] at z0 z1 z2 z3 z4 z5 z6 z7 z8 z9 z10
   have h0' : (R.code != 0) = true:=by simpa using h0
   have HEND:=Lib.hid (fun W7 h7=>does_end (c:=c) (W7:=W7) (o:=o) (an:=ansC R.code) (p:=ansP0 R.code) HA3.out (HF3.out.more (by omega)) HK3.out hrge (ansIn0 _ _ R.code) (.inl (by rw [HRR.out]; exact ⟨h0,rfl,rfl⟩)) h7)
   go_wp2
   refine bodyPost_ret (v:=Ans.val (ansC R.code)) ?_ rfl (HEND.out _ ans_keep)
   exact does_results rfl (ans_set (a':=ansC R.code) HA3.out)
  by_cases hi0 : R.ino = 0
  case pos=>
   obtain ⟨z0,z1,z2,z3,z4,z5,z6,z7,z8,z9,z10⟩:=ans_cells HA3.out
   obtain ⟨r0,r1,r2,r3,r4,r5,r6,r7,r8,r9,r10⟩:=ans_frozen HA3.out
   simp only [ans0,zeroND] at z0 z1 z2 z3 z4 z5 z6 z7 z8 z9 z10
   rw [hi0] at s2
   have HEND:=Lib.hid (fun W7 h7=>does_end (c:=c) (W7:=W7) (o:=o) (an:=ansC 160) (p:=ansP0 160) HA3.out (HF3.out.more (by omega)) HK3.out hrge (ansIn0 _ _ 160) (.inr (by rw [HRR.out]; exact ⟨h0,.inr (.inl ⟨by omega,hi0,rfl,rfl⟩)⟩)) h7)
   go_wp2
   refine bodyPost_ret (v:=Ans.val (ansC 160)) ?_ rfl (HEND.out _ ans_keep)
   exact does_results rfl (ans_set (a':=ansC 160) HA3.out)
  obtain ⟨sl,hsl,hsz,hwi⟩:=HWOK.out.slot h0
  have hs1 : sl.1.1 = R.dir:=by rw [hsl]
  have hs2 : sl.1.2 = R.name:=by rw [hsl]
  obtain ⟨a,ha⟩ : ∃ a,fs.N R.ino = some a:=by
   have h:=ok.at_ HWF.out (p:=o.path) (fo:=followsB o.kind) (by rw [HRR.out]; exact h0) (by rw [HRR.out]; exact hi0)
   rw [HRR.out] at h
   exact h
  have hat : AtR fs R sl a:=⟨hsl,hi0,ha⟩
  have hi0' : (R.ino == 0) = false:=by simpa using hi0
  have HDON : Hid (∀ p fs',(p = dataA a o ∧ fs' = dataFS fs R.ino a o) → DoesR fs o p fs'):=Lib.hid fun p fs' h=>.inr (by
   rw [HRR.out]
   exact ⟨h0,.inr (.inr ⟨sl,a,hat,.inr (.inr (.inr (.inl ⟨by omega,h⟩)))⟩)⟩)
  have hF3:=HF3.out.below (show Below w3.heap.size w3 w3.drew from ⟨rfl,rfl,rfl,Nat.le_refl _,fun _ _=>rfl⟩)
  have HM:=Lib.hid (fw_data hF3 R.ino a ha (ok.check ha) o hz ho (by omega) (by omega))
  have d1 : w3.cell? ⟨f,1,none⟩ = some (.map (some b)):=HF3.out.blk.cell 1
  have hlk : ∀ n,(Instr.lookup 88 (.map (some b)) (.int .i64 R.ino) false).run Tryz.prog (w3.drewN n) = .ok (.pointer (some ⟨(own R.ino).g,0,none⟩)) (w3.drewN n):=fun n=>by
   have h:=HF3.out.lookN R.ino hwi n
   rw [ha] at h
   exact h
  have hlk1 : (Instr.lookup 88 (.map (some b)) (.int .i64 R.ino) false).run Tryz.prog w3.drew = .ok (.pointer (some ⟨(own R.ino).g,0,none⟩)) w3.drew:=hlk 1
  unfold wkV ptrG OpA.val OpA.cs at HM
  rw [hko] at HM
  clear hF3
  go_upto_region 37 with fail
  refine wp_region_quiet_tail 10 (by kernel_rfl) (by kernel_rfl) ?_
  simp only [List.take_succ_cons,List.take_zero,List.drop_succ_cons,List.drop_zero]
  repeat (go_big_quiet_step (fail))
  refine wpQuiet_nil ?_
  go_wp2_with (
   go_at_call 58
   refine HM.out.mono ?_
   rintro e w4 ⟨an,own',he,hi4,hF4,hk4⟩
   obtain ⟨p,hp⟩ : ∃ p,p = dataA a o:=⟨_,rfl⟩
   rw [← hp] at hi4
   have hk4 : KeepF w3 w4:=KeepF.trans (KeepF.of_below (show Below w3.heap.size w3 w3.drew from ⟨rfl,rfl,rfl,Nat.le_refl _,fun _ _=>rfl⟩)) hk4
   have hi4 : AnsIn w4 w3.heap.size an p:=hi4
   have HA4:=Lib.hid (KeepF.blk hk4 HA3.out (by decide) (by decide))
   obtain ⟨acode,adata,anames,aranges,aino,and_⟩:=an
   obtain ⟨A5,q5,hn5⟩:=own_slice hi4.names
   obtain ⟨A6,q6,hn6⟩:=own_slice hi4.ranges
   simp only at hn5 hn6
   subst hn5
   subst hn6
   have HEND:=Lib.hid (fun W7 h7=>does_end (c:=c) (W7:=W7) (o:=o) HA4.out (hF4.more (by omega)) (HK3.out.trans hk4) hrge (hi4.base HB3.out.size) (HDON.out p _ ⟨hp,rfl⟩) h7)
   obtain rfl : e = .returned (.agg #[.int .i64 acode,.string adata,.slice A5 p.names.length q5,.slice A6 p.ranges.length q6,.int .i64 aino,.int .i64 and_.kind,.int .i64 and_.mode,.int .i64 and_.time,.int .i64 and_.links,.int .i64 and_.size,.string and_.target]):=he
   obtain ⟨z0,z1,z2,z3,z4,z5,z6,z7,z8,z9,z10⟩:=ans_cells HA4.out
   obtain ⟨r0,r1,r2,r3,r4,r5,r6,r7,r8,r9,r10⟩:=ans_frozen HA4.out
   simp only [ans0,zeroND] at z0 z1 z2 z3 z4 z5 z6 z7 z8 z9 z10
   generalize p.names.length = n5 at *
   generalize p.ranges.length = n6 at *
   clear hi4 hF4 hk4)
  refine bodyPost_ret (v:=Ans.val ⟨acode,adata,.slice A5 n5 q5,.slice A6 n6 q6,aino,and_⟩) ?_ rfl (HEND.out _ ans_keep)
  exact does_results rfl (ans_set (a':=⟨acode,adata,.slice A5 n5 q5,.slice A6 n6 q6,aino,and_⟩) HA4.out))
end Go.Proofs.YtpboohfofodeeaaGreatDoor
