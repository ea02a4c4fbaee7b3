/- files: does (conditions: none; printed by gen_does.py). -/
import Derived.Test.YtpboohfofodeeaaGreatDoorM31
namespace Go.Proofs.YtpboohfofodeeaaGreatDoor
open Go.RowKit Go.Maps
set_option maxRecDepth 100000 in
set_option maxHeartbeats 16000000 in
theorem does_1 [Fence] {c : Nat} {w : World} {f b m : Nat} {own : Int → Own} {fs : FS} (h : FlsB c w f b m own fs) (ok : FsOk fs) (hlv : LibV w) (o : OpA) (hz : OpSmall o) (_ho : OpInts o) (hc : c ≤ 137438953472) (hko : o.kind = 1) (R : WR) (hRR : walkS fs o.path (followsB o.kind) = R)  :
 Calls Tryz.prog 30 #[wkV f,o.val] w (DoesEnds c w f b m fs o):=by
 have hat:=da_at w f o
 have hbx:=da_box w f o
 have hF:=h.below hat.bl
 have hLV:=hlv.below hat.bl
 have hfo : followsB o.kind = false:=by rw [hko]; rfl
 have HW:=Lib.hid (fw_walk hF ok.right ok.good hLV o.path (followsB o.kind) (by have:=hz.path; omega))
 rw [hRR,hfo] at HW
 have HRR:=Lib.hid hRR
 have hwok:=walk_ok ok.right h.wf o.path (followsB o.kind)
 have HWF : Hid (WfG fs):=Lib.hid h.wf
 rw [hRR] at hwok
 have HWOK:=Lib.hid hwok
 unfold wkV OpA.val OpA.cs
 unfold wkV spotC at HW
 have HKO:=Lib.hid hko
 clear h hko hRR hfo hwok
 go_enter Tryz.func30,Tryz.ntmps30
 go_upto_region 1 with fail
 generalize (((w.alloc (.cells #[Pa f] 78)).alloc (.cells #[.int .i64 o.kind,.string o.path,.string o.dest,.string o.name,.int .i64 o.off,.int .i64 o.n,.string o.data] 24)).alloc (.cells #[.int .i64 0,.string ⟨#[]⟩,.slice none 0 0,.slice none 0 0,.int .i64 0,.int .i64 0,.int .i64 0,.int .i64 0,.int .i64 0,.int .i64 0,.string ⟨#[]⟩] 36)) = w1 at *
 have hko:=HKO.out
 obtain ⟨r,hr⟩ : ∃ r,r = w.heap.size + 1 + 1:=⟨_,rfl⟩
 rw [← hr] at hat ⊢
 have HR:=Lib.hid hr
 clear hr
 have d0 : w1.cell? ⟨w.heap.size,0,none⟩ = some (Pa f):=hbx.cell 0
 obtain ⟨o0,o1,-,-,-,-,-⟩:=oc7 hat.op
 have HAT:=Lib.hid hat
 have HF:=Lib.hid hF
 have HBX:=Lib.hid hbx
 have HA1:=Lib.hid hat.an
 have HLV:=Lib.hid hLV
 have hrge : w.heap.size ≤ r:=by rw [HR.out]; omega
 rw [hko] at o0
 clear hat hF hbx hLV
 go_upto_region 13 with (
  go_at_call 53
  refine HW.out.mono ?_
  rintro e w2 ⟨rfl,hb2⟩
  have hb3 : Below w1.heap.size w1 (w2.alloc (.cells #[.int .i64 R.dir,.string R.name,.int .i64 R.ino] 119)):=hb2.alloc hb2.size _
  have HB3:=Lib.hid (bl_t HAT.out.bl hb3)
  have HA3:=Lib.hid (blk_below HA1.out hb3)
  have HF3:=Lib.hid (HF.out.below hb3)
  have HBX3:=Lib.hid (blk_below HBX.out hb3)
  have HO3:=Lib.hid (blk_below HAT.out.op hb3)
  have HLV3:=Lib.hid (HLV.out.below hb3)
  have hs3:=Blk.new w2 119 #[.int .i64 R.dir,.string R.name,.int .i64 R.ino]
  obtain ⟨sp,hsp⟩ : ∃ sp,sp = w2.heap.size:=⟨_,rfl⟩
  rw [← hsp] at hs3
  have HS3:=Lib.hid hs3
  have HSP:=Lib.hid hsp
  clear hb2 hb3 hs3 hsp)
 rw [← HSP.out]
 generalize (w2.alloc (.cells #[.int .i64 R.dir,.string R.name,.int .i64 R.ino] 119)) = w3 at *
 clear d0 o0 o1 HF HBX HA1 HW HLV
 have d0 : w3.cell? ⟨w.heap.size,0,none⟩ = some (Pa f):=HBX3.out.cell 0
 obtain ⟨o0,o1,o2,o3,o4,o5,o6⟩:=oc7 HO3.out
 rw [hko] at o0
 obtain ⟨s0,s1,s2⟩:=sc3 HS3.out
 have HK3 : Hid (KeepF w w3):=Lib.hid (KeepF.of_below HB3.out)
 by_cases h0 : R.code = 0
 case neg=>
  obtain ⟨z0,z1,z2,z3,z4,z5,z6,z7,z8,z9,z10⟩:=ans_cells HA3.out
  obtain ⟨r0,r1,r2,r3,r4,r5,r6,r7,r8,r9,r10⟩:=ans_frozen HA3.out
  simp only [ans0,zeroND] at z0 z1 z2 z3 z4 z5 z6 z7 z8 z9 z10
  have h0' : (R.code != 0) = true:=by simpa using h0
  have HEND:=Lib.hid (fun W7 h7=>does_end (c:=c) (W7:=W7) (o:=o) (an:=ansC R.code) (p:=ansP0 R.code) HA3.out (HF3.out.more (by omega)) HK3.out hrge (ansIn0 _ _ R.code) (.inl (by rw [HRR.out]; exact ⟨h0,rfl,rfl⟩)) h7)
  go_wp2
  refine bodyPost_ret (v:=Ans.val (ansC R.code)) ?_ rfl (HEND.out _ ans_keep)
  exact does_results rfl (ans_set (a':=ansC R.code) HA3.out)
 obtain ⟨sl,hsl,hsz,hwi⟩:=HWOK.out.slot h0
 have hs1 : sl.1.1 = R.dir:=by rw [hsl]
 have hs2 : sl.1.2 = R.name:=by rw [hsl]
 have hnd : newND o = ⟨1,o.n,0,0,0,⟨#[]⟩⟩:=by unfold newND; rw [hko]; rfl
 have HM:=Lib.hid ((fw_make (w:=w3) HF3.out ok.names sl hsz R.ino ⟨1,o.n,0,0,0,⟨#[]⟩⟩ (by have:=ok.next; omega) (by omega)).mono fun e w' h=>h.to)
 unfold wkV spotC ND.val ND.cs at HM
 rw [hs1,hs2] at HM
 have HDON : Hid (∀ p fs',MakeR fs sl R.ino ⟨1,o.n,0,0,0,⟨#[]⟩⟩ p fs' → DoesR fs o p fs'):=Lib.hid fun p fs' h=>.inr (by
  rw [HRR.out]
  exact ⟨h0,.inl ⟨by omega,sl,hsl,by rw [hnd]; exact h⟩⟩)
 go_wp2_with (
  go_at_call 54
  refine HM.out.mono ?_
  rintro e w4 ⟨an,p,fs',own',he,hi4,hm4,hF4,hk4⟩
  have HA4:=Lib.hid (KeepF.blk hk4 HA3.out (by decide) (by decide))
  obtain ⟨acode,adata,anames,aranges,aino,and_⟩:=an
  obtain ⟨A5,q5,hn5⟩:=own_slice hi4.names
  obtain ⟨A6,q6,hn6⟩:=own_slice hi4.ranges
  simp only at hn5 hn6
  subst hn5
  subst hn6
  have HEND:=Lib.hid (fun W7 h7=>does_end (c:=c) (W7:=W7) (o:=o) HA4.out (hF4.more (by omega)) (HK3.out.trans hk4) hrge (hi4.base HB3.out.size) (HDON.out p fs' hm4) h7)
  obtain rfl : e = .returned (.agg #[.int .i64 acode,.string adata,.slice A5 p.names.length q5,.slice A6 p.ranges.length q6,.int .i64 aino,.int .i64 and_.kind,.int .i64 and_.mode,.int .i64 and_.time,.int .i64 and_.links,.int .i64 and_.size,.string and_.target]):=he
  obtain ⟨z0,z1,z2,z3,z4,z5,z6,z7,z8,z9,z10⟩:=ans_cells HA4.out
  obtain ⟨r0,r1,r2,r3,r4,r5,r6,r7,r8,r9,r10⟩:=ans_frozen HA4.out
  simp only [ans0,zeroND] at z0 z1 z2 z3 z4 z5 z6 z7 z8 z9 z10
  generalize p.names.length = n5 at *
  generalize p.ranges.length = n6 at *
  clear hi4 hF4 hk4)
 refine bodyPost_ret (v:=Ans.val ⟨acode,adata,.slice A5 n5 q5,.slice A6 n6 q6,aino,and_⟩) ?_ rfl (HEND.out _ ans_keep)
 exact does_results rfl (ans_set (a':=⟨acode,adata,.slice A5 n5 q5,.slice A6 n6 q6,aino,and_⟩) HA4.out)
set_option maxRecDepth 100000 in
set_option maxHeartbeats 16000000 in
theorem does_2 [Fence] {c : Nat} {w : World} {f b m : Nat} {own : Int → Own} {fs : FS} (h : FlsB c w f b m own fs) (ok : FsOk fs) (hlv : LibV w) (o : OpA) (hz : OpSmall o) (_ho : OpInts o) (hc : c ≤ 137438953472) (hko : o.kind = 2) (R : WR) (hRR : walkS fs o.path (followsB o.kind) = R)  :
 Calls Tryz.prog 30 #[wkV f,o.val] w (DoesEnds c w f b m fs o):=by
 have hat:=da_at w f o
 have hbx:=da_box w f o
 have hF:=h.below hat.bl
 have hLV:=hlv.below hat.bl
 have hfo : followsB o.kind = false:=by rw [hko]; rfl
 have HW:=Lib.hid (fw_walk hF ok.right ok.good hLV o.path (followsB o.kind) (by have:=hz.path; omega))
 rw [hRR,hfo] at HW
 have HRR:=Lib.hid hRR
 have hwok:=walk_ok ok.right h.wf o.path (followsB o.kind)
 have HWF : Hid (WfG fs):=Lib.hid h.wf
 rw [hRR] at hwok
 have HWOK:=Lib.hid hwok
 unfold wkV OpA.val OpA.cs
 unfold wkV spotC at HW
 have HKO:=Lib.hid hko
 clear h hko hRR hfo hwok
 go_enter Tryz.func30,Tryz.ntmps30
 go_upto_region 1 with fail
 generalize (((w.alloc (.cells #[Pa f] 78)).alloc (.cells #[.int .i64 o.kind,.string o.path,.string o.dest,.string o.name,.int .i64 o.off,.int .i64 o.n,.string o.data] 24)).alloc (.cells #[.int .i64 0,.string ⟨#[]⟩,.slice none 0 0,.slice none 0 0,.int .i64 0,.int .i64 0,.int .i64 0,.int .i64 0,.int .i64 0,.int .i64 0,.string ⟨#[]⟩] 36)) = w1 at *
 have hko:=HKO.out
 obtain ⟨r,hr⟩ : ∃ r,r = w.heap.size + 1 + 1:=⟨_,rfl⟩
 rw [← hr] at hat ⊢
 have HR:=Lib.hid hr
 clear hr
 have d0 : w1.cell? ⟨w.heap.size,0,none⟩ = some (Pa f):=hbx.cell 0
 obtain ⟨o0,o1,-,-,-,-,-⟩:=oc7 hat.op
 have HAT:=Lib.hid hat
 have HF:=Lib.hid hF
 have HBX:=Lib.hid hbx
 have HA1:=Lib.hid hat.an
 have HLV:=Lib.hid hLV
 have hrge : w.heap.size ≤ r:=by rw [HR.out]; omega
 rw [hko] at o0
 clear hat hF hbx hLV
 go_upto_region 13 with (
  go_at_call 53
  refine HW.out.mono ?_
  rintro e w2 ⟨rfl,hb2⟩
  have hb3 : Below w1.heap.size w1 (w2.alloc (.cells #[.int .i64 R.dir,.string R.name,.int .i64 R.ino] 119)):=hb2.alloc hb2.size _
  have HB3:=Lib.hid (bl_t HAT.out.bl hb3)
  have HA3:=Lib.hid (blk_below HA1.out hb3)
  have HF3:=Lib.hid (HF.out.below hb3)
  have HBX3:=Lib.hid (blk_below HBX.out hb3)
  have HO3:=Lib.hid (blk_below HAT.out.op hb3)
  have HLV3:=Lib.hid (HLV.out.below hb3)
  have hs3:=Blk.new w2 119 #[.int .i64 R.dir,.string R.name,.int .i64 R.ino]
  obtain ⟨sp,hsp⟩ : ∃ sp,sp = w2.heap.size:=⟨_,rfl⟩
  rw [← hsp] at hs3
  have HS3:=Lib.hid hs3
  have HSP:=Lib.hid hsp
  clear hb2 hb3 hs3 hsp)
 rw [← HSP.out]
 generalize (w2.alloc (.cells #[.int .i64 R.dir,.string R.name,.int .i64 R.ino] 119)) = w3 at *
 clear d0 o0 o1 HF HBX HA1 HW HLV
 have d0 : w3.cell? ⟨w.heap.size,0,none⟩ = some (Pa f):=HBX3.out.cell 0
 obtain ⟨o0,o1,o2,o3,o4,o5,o6⟩:=oc7 HO3.out
 rw [hko] at o0
 obtain ⟨s0,s1,s2⟩:=sc3 HS3.out
 have HK3 : Hid (KeepF w w3):=Lib.hid (KeepF.of_below HB3.out)
 by_cases h0 : R.code = 0
 case neg=>
  obtain ⟨z0,z1,z2,z3,z4,z5,z6,z7,z8,z9,z10⟩:=ans_cells HA3.out
  obtain ⟨r0,r1,r2,r3,r4,r5,r6,r7,r8,r9,r10⟩:=ans_frozen HA3.out
  simp only [ans0,zeroND] at z0 z1 z2 z3 z4 z5 z6 z7 z8 z9 z10
  have h0' : (R.code != 0) = true:=by simpa using h0
  have HEND:=Lib.hid (fun W7 h7=>does_end (c:=c) (W7:=W7) (o:=o) (an:=ansC R.code) (p:=ansP0 R.code) HA3.out (HF3.out.more (by omega)) HK3.out hrge (ansIn0 _ _ R.code) (.inl (by rw [HRR.out]; exact ⟨h0,rfl,rfl⟩)) h7)
  go_wp2
  refine bodyPost_ret (v:=Ans.val (ansC R.code)) ?_ rfl (HEND.out _ ans_keep)
  exact does_results rfl (ans_set (a':=ansC R.code) HA3.out)
 obtain ⟨sl,hsl,hsz,hwi⟩:=HWOK.out.slot h0
 have hs1 : sl.1.1 = R.dir:=by rw [hsl]
 have hs2 : sl.1.2 = R.name:=by rw [hsl]
 have hnd : newND o = ⟨2,o.n,0,0,0,⟨#[]⟩⟩:=by unfold newND; rw [hko]; rfl
 have HM:=Lib.hid ((fw_make (w:=w3) HF3.out ok.names sl hsz R.ino ⟨2,o.n,0,0,0,⟨#[]⟩⟩ (by have:=ok.next; omega) (by omega)).mono fun e w' h=>h.to)
 unfold wkV spotC ND.val ND.cs at HM
 rw [hs1,hs2] at HM
 have HDON : Hid (∀ p fs',MakeR fs sl R.ino ⟨2,o.n,0,0,0,⟨#[]⟩⟩ p fs' → DoesR fs o p fs'):=Lib.hid fun p fs' h=>.inr (by
  rw [HRR.out]
  exact ⟨h0,.inl ⟨by omega,sl,hsl,by rw [hnd]; exact h⟩⟩)
 go_wp2_with (
  go_at_call 54
  refine HM.out.mono ?_
  rintro e w4 ⟨an,p,fs',own',he,hi4,hm4,hF4,hk4⟩
  have HA4:=Lib.hid (KeepF.blk hk4 HA3.out (by decide) (by decide))
  obtain ⟨acode,adata,anames,aranges,aino,and_⟩:=an
  obtain ⟨A5,q5,hn5⟩:=own_slice hi4.names
  obtain ⟨A6,q6,hn6⟩:=own_slice hi4.ranges
  simp only at hn5 hn6
  subst hn5
  subst hn6
  have HEND:=Lib.hid (fun W7 h7=>does_end (c:=c) (W7:=W7) (o:=o) HA4.out (hF4.more (by omega)) (HK3.out.trans hk4) hrge (hi4.base HB3.out.size) (HDON.out p fs' hm4) h7)
  obtain rfl : e = .returned (.agg #[.int .i64 acode,.string adata,.slice A5 p.names.length q5,.slice A6 p.ranges.length q6,.int .i64 aino,.int .i64 and_.kind,.int .i64 and_.mode,.int .i64 and_.time,.int .i64 and_.links,.int .i64 and_.size,.string and_.target]):=he
  obtain ⟨z0,z1,z2,z3,z4,z5,z6,z7,z8,z9,z10⟩:=ans_cells HA4.out
  obtain ⟨r0,r1,r2,r3,r4,r5,r6,r7,r8,r9,r10⟩:=ans_frozen HA4.out
  simp only [ans0,zeroND] at z0 z1 z2 z3 z4 z5 z6 z7 z8 z9 z10
  generalize p.names.length = n5 at *
  generalize p.ranges.length = n6 at *
  clear hi4 hF4 hk4)
 refine bodyPost_ret (v:=Ans.val ⟨acode,adata,.slice A5 n5 q5,.slice A6 n6 q6,aino,and_⟩) ?_ rfl (HEND.out _ ans_keep)
 exact does_results rfl (ans_set (a':=⟨acode,adata,.slice A5 n5 q5,.slice A6 n6 q6,aino,and_⟩) HA4.out)
set_option maxRecDepth 100000 in
set_option maxHeartbeats 16000000 in
theorem does_3 [Fence] {c : Nat} {w : World} {f b m : Nat} {own : Int → Own} {fs : FS} (h : FlsB c w f b m own fs) (ok : FsOk fs) (hlv : LibV w) (o : OpA) (hz : OpSmall o) (_ho : OpInts o) (hc : c ≤ 137438953472) (hko : o.kind = 3) (R : WR) (hRR : walkS fs o.path (followsB o.kind) = R)  :
 Calls Tryz.prog 30 #[wkV f,o.val] w (DoesEnds c w f b m fs o):=by
 have hat:=da_at w f o
 have hbx:=da_box w f o
 have hF:=h.below hat.bl
 have hLV:=hlv.below hat.bl
 have hfo : followsB o.kind = false:=by rw [hko]; rfl
 have HW:=Lib.hid (fw_walk hF ok.right ok.good hLV o.path (followsB o.kind) (by have:=hz.path; omega))
 rw [hRR,hfo] at HW
 have HRR:=Lib.hid hRR
 have hwok:=walk_ok ok.right h.wf o.path (followsB o.kind)
 have HWF : Hid (WfG fs):=Lib.hid h.wf
 rw [hRR] at hwok
 have HWOK:=Lib.hid hwok
 unfold wkV OpA.val OpA.cs
 unfold wkV spotC at HW
 have HKO:=Lib.hid hko
 clear h hko hRR hfo hwok
 go_enter Tryz.func30,Tryz.ntmps30
 go_upto_region 1 with fail
 generalize (((w.alloc (.cells #[Pa f] 78)).alloc (.cells #[.int .i64 o.kind,.string o.path,.string o.dest,.string o.name,.int .i64 o.off,.int .i64 o.n,.string o.data] 24)).alloc (.cells #[.int .i64 0,.string ⟨#[]⟩,.slice none 0 0,.slice none 0 0,.int .i64 0,.int .i64 0,.int .i64 0,.int .i64 0,.int .i64 0,.int .i64 0,.string ⟨#[]⟩] 36)) = w1 at *
 have hko:=HKO.out
 obtain ⟨r,hr⟩ : ∃ r,r = w.heap.size + 1 + 1:=⟨_,rfl⟩
 rw [← hr] at hat ⊢
 have HR:=Lib.hid hr
 clear hr
 have d0 : w1.cell? ⟨w.heap.size,0,none⟩ = some (Pa f):=hbx.cell 0
 obtain ⟨o0,o1,-,-,-,-,-⟩:=oc7 hat.op
 have HAT:=Lib.hid hat
 have HF:=Lib.hid hF
 have HBX:=Lib.hid hbx
 have HA1:=Lib.hid hat.an
 have HLV:=Lib.hid hLV
 have hrge : w.heap.size ≤ r:=by rw [HR.out]; omega
 rw [hko] at o0
 clear hat hF hbx hLV
 go_upto_region 13 with (
  go_at_call 53
  refine HW.out.mono ?_
  rintro e w2 ⟨rfl,hb2⟩
  have hb3 : Below w1.heap.size w1 (w2.alloc (.cells #[.int .i64 R.dir,.string R.name,.int .i64 R.ino] 119)):=hb2.alloc hb2.size _
  have HB3:=Lib.hid (bl_t HAT.out.bl hb3)
  have HA3:=Lib.hid (blk_below HA1.out hb3)
  have HF3:=Lib.hid (HF.out.below hb3)
  have HBX3:=Lib.hid (blk_below HBX.out hb3)
  have HO3:=Lib.hid (blk_below HAT.out.op hb3)
  have HLV3:=Lib.hid (HLV.out.below hb3)
  have hs3:=Blk.new w2 119 #[.int .i64 R.dir,.string R.name,.int .i64 R.ino]
  obtain ⟨sp,hsp⟩ : ∃ sp,sp = w2.heap.size:=⟨_,rfl⟩
  rw [← hsp] at hs3
  have HS3:=Lib.hid hs3
  have HSP:=Lib.hid hsp
  clear hb2 hb3 hs3 hsp)
 rw [← HSP.out]
 generalize (w2.alloc (.cells #[.int .i64 R.dir,.string R.name,.int .i64 R.ino] 119)) = w3 at *
 clear d0 o0 o1 HF HBX HA1 HW HLV
 have d0 : w3.cell? ⟨w.heap.size,0,none⟩ = some (Pa f):=HBX3.out.cell 0
 obtain ⟨o0,o1,o2,o3,o4,o5,o6⟩:=oc7 HO3.out
 rw [hko] at o0
 obtain ⟨s0,s1,s2⟩:=sc3 HS3.out
 have HK3 : Hid (KeepF w w3):=Lib.hid (KeepF.of_below HB3.out)
 by_cases h0 : R.code = 0
 case neg=>
  obtain ⟨z0,z1,z2,z3,z4,z5,z6,z7,z8,z9,z10⟩:=ans_cells HA3.out
  obtain ⟨r0,r1,r2,r3,r4,r5,r6,r7,r8,r9,r10⟩:=ans_frozen HA3.out
  simp only [ans0,zeroND] at z0 z1 z2 z3 z4 z5 z6 z7 z8 z9 z10
  have h0' : (R.code != 0) = true:=by simpa using h0
  have HEND:=Lib.hid (fun W7 h7=>does_end (c:=c) (W7:=W7) (o:=o) (an:=ansC R.code) (p:=ansP0 R.code) HA3.out (HF3.out.more (by omega)) HK3.out hrge (ansIn0 _ _ R.code) (.inl (by rw [HRR.out]; exact ⟨h0,rfl,rfl⟩)) h7)
  go_wp2
  refine bodyPost_ret (v:=Ans.val (ansC R.code)) ?_ rfl (HEND.out _ ans_keep)
  exact does_results rfl (ans_set (a':=ansC R.code) HA3.out)
 obtain ⟨sl,hsl,hsz,hwi⟩:=HWOK.out.slot h0
 have hs1 : sl.1.1 = R.dir:=by rw [hsl]
 have hs2 : sl.1.2 = R.name:=by rw [hsl]
 have hnd : newND o = ⟨3,0,0,0,0,o.data⟩:=by unfold newND; rw [hko]; rfl
 have HM:=Lib.hid ((fw_make (w:=w3) HF3.out ok.names sl hsz R.ino ⟨3,0,0,0,0,o.data⟩ (by have:=ok.next; omega) (by omega)).mono fun e w' h=>h.to)
 unfold wkV spotC ND.val ND.cs at HM
 rw [hs1,hs2] at HM
 have HDON : Hid (∀ p fs',MakeR fs sl R.ino ⟨3,0,0,0,0,o.data⟩ p fs' → DoesR fs o p fs'):=Lib.hid fun p fs' h=>.inr (by
  rw [HRR.out]
  exact ⟨h0,.inl ⟨by omega,sl,hsl,by rw [hnd]; exact h⟩⟩)
 go_wp2_with (
  go_at_call 54
  refine HM.out.mono ?_
  rintro e w4 ⟨an,p,fs',own',he,hi4,hm4,hF4,hk4⟩
  have HA4:=Lib.hid (KeepF.blk hk4 HA3.out (by decide) (by decide))
  obtain ⟨acode,adata,anames,aranges,aino,and_⟩:=an
  obtain ⟨A5,q5,hn5⟩:=own_slice hi4.names
  obtain ⟨A6,q6,hn6⟩:=own_slice hi4.ranges
  simp only at hn5 hn6
  subst hn5
  subst hn6
  have HEND:=Lib.hid (fun W7 h7=>does_end (c:=c) (W7:=W7) (o:=o) HA4.out (hF4.more (by omega)) (HK3.out.trans hk4) hrge (hi4.base HB3.out.size) (HDON.out p fs' hm4) h7)
  obtain rfl : e = .returned (.agg #[.int .i64 acode,.string adata,.slice A5 p.names.length q5,.slice A6 p.ranges.length q6,.int .i64 aino,.int .i64 and_.kind,.int .i64 and_.mode,.int .i64 and_.time,.int .i64 and_.links,.int .i64 and_.size,.string and_.target]):=he
  obtain ⟨z0,z1,z2,z3,z4,z5,z6,z7,z8,z9,z10⟩:=ans_cells HA4.out
  obtain ⟨r0,r1,r2,r3,r4,r5,r6,r7,r8,r9,r10⟩:=ans_frozen HA4.out
  simp only [ans0,zeroND] at z0 z1 z2 z3 z4 z5 z6 z7 z8 z9 z10
  generalize p.names.length = n5 at *
  generalize p.ranges.length = n6 at *
  clear hi4 hF4 hk4)
 refine bodyPost_ret (v:=Ans.val ⟨acode,adata,.slice A5 n5 q5,.slice A6 n6 q6,aino,and_⟩) ?_ rfl (HEND.out _ ans_keep)
 exact does_results rfl (ans_set (a':=⟨acode,adata,.slice A5 n5 q5,.slice A6 n6 q6,aino,and_⟩) HA4.out)
set_option maxRecDepth 100000 in
set_option maxHeartbeats 16000000 in
theorem does_4 [Fence] {c : Nat} {w : World} {f b m : Nat} {own : Int → Own} {fs : FS} (h : FlsB c w f b m own fs) (ok : FsOk fs) (hlv : LibV w) (o : OpA) (hz : OpSmall o) (_ho : OpInts o) (hc : c ≤ 137438953472) (hko : o.kind = 4) (R : WR) (hRR : walkS fs o.path (followsB o.kind) = R)  :
 Calls Tryz.prog 30 #[wkV f,o.val] w (DoesEnds c w f b m fs o):=by
 have hat:=da_at w f o
 have hbx:=da_box w f o
 have hF:=h.below hat.bl
 have hLV:=hlv.below hat.bl
 have hfo : followsB o.kind = false:=by rw [hko]; rfl
 have HW:=Lib.hid (fw_walk hF ok.right ok.good hLV o.path (followsB o.kind) (by have:=hz.path; omega))
 rw [hRR,hfo] at HW
 have HRR:=Lib.hid hRR
 have hwok:=walk_ok ok.right h.wf o.path (followsB o.kind)
 have HWF : Hid (WfG fs):=Lib.hid h.wf
 rw [hRR] at hwok
 have HWOK:=Lib.hid hwok
 unfold wkV OpA.val OpA.cs
 unfold wkV spotC at HW
 have HKO:=Lib.hid hko
 clear h hko hRR hfo hwok
 go_enter Tryz.func30,Tryz.ntmps30
 go_upto_region 1 with fail
 generalize (((w.alloc (.cells #[Pa f] 78)).alloc (.cells #[.int .i64 o.kind,.string o.path,.string o.dest,.string o.name,.int .i64 o.off,.int .i64 o.n,.string o.data] 24)).alloc (.cells #[.int .i64 0,.string ⟨#[]⟩,.slice none 0 0,.slice none 0 0,.int .i64 0,.int .i64 0,.int .i64 0,.int .i64 0,.int .i64 0,.int .i64 0,.string ⟨#[]⟩] 36)) = w1 at *
 have hko:=HKO.out
 obtain ⟨r,hr⟩ : ∃ r,r = w.heap.size + 1 + 1:=⟨_,rfl⟩
 rw [← hr] at hat ⊢
 have HR:=Lib.hid hr
 clear hr
 have d0 : w1.cell? ⟨w.heap.size,0,none⟩ = some (Pa f):=hbx.cell 0
 obtain ⟨o0,o1,-,-,-,-,-⟩:=oc7 hat.op
 have HAT:=Lib.hid hat
 have HF:=Lib.hid hF
 have HBX:=Lib.hid hbx
 have HA1:=Lib.hid hat.an
 have HLV:=Lib.hid hLV
 have hrge : w.heap.size ≤ r:=by rw [HR.out]; omega
 rw [hko] at o0
 clear hat hF hbx hLV
 go_upto_region 13 with (
  go_at_call 53
  refine HW.out.mono ?_
  rintro e w2 ⟨rfl,hb2⟩
  have hb3 : Below w1.heap.size w1 (w2.alloc (.cells #[.int .i64 R.dir,.string R.name,.int .i64 R.ino] 119)):=hb2.alloc hb2.size _
  have HB3:=Lib.hid (bl_t HAT.out.bl hb3)
  have HA3:=Lib.hid (blk_below HA1.out hb3)
  have HF3:=Lib.hid (HF.out.below hb3)
  have HBX3:=Lib.hid (blk_below HBX.out hb3)
  have HO3:=Lib.hid (blk_below HAT.out.op hb3)
  have HLV3:=Lib.hid (HLV.out.below hb3)
  have hs3:=Blk.new w2 119 #[.int .i64 R.dir,.string R.name,.int .i64 R.ino]
  obtain ⟨sp,hsp⟩ : ∃ sp,sp = w2.heap.size:=⟨_,rfl⟩
  rw [← hsp] at hs3
  have HS3:=Lib.hid hs3
  have HSP:=Lib.hid hsp
  clear hb2 hb3 hs3 hsp)
 rw [← HSP.out]
 generalize (w2.alloc (.cells #[.int .i64 R.dir,.string R.name,.int .i64 R.ino] 119)) = w3 at *
 clear d0 o0 o1 HF HBX HA1 HW HLV
 have d0 : w3.cell? ⟨w.heap.size,0,none⟩ = some (Pa f):=HBX3.out.cell 0
 obtain ⟨o0,o1,o2,o3,o4,o5,o6⟩:=oc7 HO3.out
 rw [hko] at o0
 obtain ⟨s0,s1,s2⟩:=sc3 HS3.out
 have HK3 : Hid (KeepF w w3):=Lib.hid (KeepF.of_below HB3.out)
 by_cases h0 : R.code = 0
 case neg=>
  obtain ⟨z0,z1,z2,z3,z4,z5,z6,z7,z8,z9,z10⟩:=ans_cells HA3.out
  obtain ⟨r0,r1,r2,r3,r4,r5,r6,r7,r8,r9,r10⟩:=ans_frozen HA3.out
  simp only [ans0,zeroND] at z0 z1 z2 z3 z4 z5 z6 z7 z8 z9 z10
  have h0' : (R.code != 0) = true:=by simpa using h0
  have HEND:=Lib.hid (fun W7 h7=>does_end (c:=c) (W7:=W7) (o:=o) (an:=ansC R.code) (p:=ansP0 R.code) HA3.out (HF3.out.more (by omega)) HK3.out hrge (ansIn0 _ _ R.code) (.inl (by rw [HRR.out]; exact ⟨h0,rfl,rfl⟩)) h7)
  go_wp2
  refine bodyPost_ret (v:=Ans.val (ansC R.code)) ?_ rfl (HEND.out _ ans_keep)
  exact does_results rfl (ans_set (a':=ansC R.code) HA3.out)
 by_cases hi0 : R.ino = 0
 case pos=>
  obtain ⟨z0,z1,z2,z3,z4,z5,z6,z7,z8,z9,z10⟩:=ans_cells HA3.out
  obtain ⟨r0,r1,r2,r3,r4,r5,r6,r7,r8,r9,r10⟩:=ans_frozen HA3.out
  simp only [ans0,zeroND] at z0 z1 z2 z3 z4 z5 z6 z7 z8 z9 z10
  rw [hi0] at s2
  have HEND:=Lib.hid (fun W7 h7=>does_end (c:=c) (W7:=W7) (o:=o) (an:=ansC 160) (p:=ansP0 160) HA3.out (HF3.out.more (by omega)) HK3.out hrge (ansIn0 _ _ 160) (.inr (by rw [HRR.out]; exact ⟨h0,.inr (.inl ⟨by omega,hi0,rfl,rfl⟩)⟩)) h7)
  go_wp2
  refine bodyPost_ret (v:=Ans.val (ansC 160)) ?_ rfl (HEND.out _ ans_keep)
  exact does_results rfl (ans_set (a':=ansC 160) HA3.out)
 obtain ⟨sl,hsl,hsz,hwi⟩:=HWOK.out.slot h0
 have hs1 : sl.1.1 = R.dir:=by rw [hsl]
 have hs2 : sl.1.2 = R.name:=by rw [hsl]
 obtain ⟨a,ha⟩ : ∃ a,fs.N R.ino = some a:=by
  have h:=ok.at_ HWF.out (p:=o.path) (fo:=followsB o.kind) (by rw [HRR.out]; exact h0) (by rw [HRR.out]; exact hi0)
  rw [HRR.out] at h
  exact h
 have hat : AtR fs R sl a:=⟨hsl,hi0,ha⟩
 have hi0' : (R.ino == 0) = false:=by simpa using hi0
 have HDON : Hid (∀ p fs',(∃ code,LinkR fs R.ino a o.dest code fs' ∧ p = ansP0 code) → DoesR fs o p fs'):=Lib.hid fun p fs' h=>.inr (by
  rw [HRR.out]
  exact ⟨h0,.inr (.inr ⟨sl,a,hat,.inl ⟨hko,h⟩⟩)⟩)
 have HM:=Lib.hid (fw_link (w:=w3) HF3.out ok.right ok.good ok.names HLV3.out R.dir R.name R.ino a ha hwi o.dest (by have:=hz.dest; omega) (by omega))
 unfold wkV spotC at HM
 skip
 go_wp2_with (
  go_at_call 55
  refine HM.out.mono ?_
  rintro e w4 ⟨code,fs',own',rfl,hm4,hF4,hk4⟩
  have HA4:=Lib.hid (KeepF.blk hk4 HA3.out (by decide) (by decide))
  have HEND:=Lib.hid (fun W7 h7=>does_end (c:=c) (W7:=W7) (o:=o) (an:=ansC code) (p:=ansP0 code) HA4.out (hF4.more (by omega)) (HK3.out.trans hk4) hrge (ansIn0 _ _ code) (HDON.out _ fs' ⟨code,hm4,rfl⟩) h7)
  obtain ⟨z0,z1,z2,z3,z4,z5,z6,z7,z8,z9,z10⟩:=ans_cells HA4.out
  obtain ⟨r0,r1,r2,r3,r4,r5,r6,r7,r8,r9,r10⟩:=ans_frozen HA4.out
  simp only [ans0,zeroND] at z0 z1 z2 z3 z4 z5 z6 z7 z8 z9 z10
  clear hF4 hk4 hm4)
 refine bodyPost_ret (v:=Ans.val (ansC code)) ?_ rfl (HEND.out _ ans_keep)
 exact does_results rfl (ans_set (a':=ansC code) HA4.out)
set_option maxRecDepth 100000 in
set_option maxHeartbeats 16000000 in
theorem does_5 [Fence] {c : Nat} {w : World} {f b m : Nat} {own : Int → Own} {fs : FS} (h : FlsB c w f b m own fs) (ok : FsOk fs) (hlv : LibV w) (o : OpA) (hz : OpSmall o) (_ho : OpInts o) (_hc : c ≤ 137438953472) (hko : o.kind = 5) (R : WR) (hRR : walkS fs o.path (followsB o.kind) = R)  :
 Calls Tryz.prog 30 #[wkV f,o.val] w (DoesEnds c w f b m fs o):=by
 have hat:=da_at w f o
 have hbx:=da_box w f o
 have hF:=h.below hat.bl
 have hLV:=hlv.below hat.bl
 have hfo : followsB o.kind = false:=by rw [hko]; rfl
 have HW:=Lib.hid (fw_walk hF ok.right ok.good hLV o.path (followsB o.kind) (by have:=hz.path; omega))
 rw [hRR,hfo] at HW
 have HRR:=Lib.hid hRR
 have hwok:=walk_ok ok.right h.wf o.path (followsB o.kind)
 have HWF : Hid (WfG fs):=Lib.hid h.wf
 rw [hRR] at hwok
 have HWOK:=Lib.hid hwok
 unfold wkV OpA.val OpA.cs
 unfold wkV spotC at HW
 have HKO:=Lib.hid hko
 clear h hko hRR hfo hwok
 go_enter Tryz.func30,Tryz.ntmps30
 go_upto_region 1 with fail
 generalize (((w.alloc (.cells #[Pa f] 78)).alloc (.cells #[.int .i64 o.kind,.string o.path,.string o.dest,.string o.name,.int .i64 o.off,.int .i64 o.n,.string o.data] 24)).alloc (.cells #[.int .i64 0,.string ⟨#[]⟩,.slice none 0 0,.slice none 0 0,.int .i64 0,.int .i64 0,.int .i64 0,.int .i64 0,.int .i64 0,.int .i64 0,.string ⟨#[]⟩] 36)) = w1 at *
 have hko:=HKO.out
 obtain ⟨r,hr⟩ : ∃ r,r = w.heap.size + 1 + 1:=⟨_,rfl⟩
 rw [← hr] at hat ⊢
 have HR:=Lib.hid hr
 clear hr
 have d0 : w1.cell? ⟨w.heap.size,0,none⟩ = some (Pa f):=hbx.cell 0
 obtain ⟨o0,o1,-,-,-,-,-⟩:=oc7 hat.op
 have HAT:=Lib.hid hat
 have HF:=Lib.hid hF
 have HBX:=Lib.hid hbx
 have HA1:=Lib.hid hat.an
 have HLV:=Lib.hid hLV
 have hrge : w.heap.size ≤ r:=by rw [HR.out]; omega
 rw [hko] at o0
 clear hat hF hbx hLV
 go_upto_region 13 with (
  go_at_call 53
  refine HW.out.mono ?_
  rintro e w2 ⟨rfl,hb2⟩
  have hb3 : Below w1.heap.size w1 (w2.alloc (.cells #[.int .i64 R.dir,.string R.name,.int .i64 R.ino] 119)):=hb2.alloc hb2.size _
  have HB3:=Lib.hid (bl_t HAT.out.bl hb3)
  have HA3:=Lib.hid (blk_below HA1.out hb3)
  have HF3:=Lib.hid (HF.out.below hb3)
  have HBX3:=Lib.hid (blk_below HBX.out hb3)
  have HO3:=Lib.hid (blk_below HAT.out.op hb3)
  have HLV3:=Lib.hid (HLV.out.below hb3)
  have hs3:=Blk.new w2 119 #[.int .i64 R.dir,.string R.name,.int .i64 R.ino]
  obtain ⟨sp,hsp⟩ : ∃ sp,sp = w2.heap.size:=⟨_,rfl⟩
  rw [← hsp] at hs3
  have HS3:=Lib.hid hs3
  have HSP:=Lib.hid hsp
  clear hb2 hb3 hs3 hsp)
 rw [← HSP.out]
 generalize (w2.alloc (.cells #[.int .i64 R.dir,.string R.name,.int .i64 R.ino] 119)) = w3 at *
 clear d0 o0 o1 HF HBX HA1 HW HLV
 have d0 : w3.cell? ⟨w.heap.size,0,none⟩ = some (Pa f):=HBX3.out.cell 0
 obtain ⟨o0,o1,o2,o3,o4,o5,o6⟩:=oc7 HO3.out
 rw [hko] at o0
 obtain ⟨s0,s1,s2⟩:=sc3 HS3.out
 have HK3 : Hid (KeepF w w3):=Lib.hid (KeepF.of_below HB3.out)
 by_cases h0 : R.code = 0
 case neg=>
  obtain ⟨z0,z1,z2,z3,z4,z5,z6,z7,z8,z9,z10⟩:=ans_cells HA3.out
  obtain ⟨r0,r1,r2,r3,r4,r5,r6,r7,r8,r9,r10⟩:=ans_frozen HA3.out
  simp only [ans0,zeroND] at z0 z1 z2 z3 z4 z5 z6 z7 z8 z9 z10
  have h0' : (R.code != 0) = true:=by simpa using h0
  have HEND:=Lib.hid (fun W7 h7=>does_end (c:=c) (W7:=W7) (o:=o) (an:=ansC R.code) (p:=ansP0 R.code) HA3.out (HF3.out.more (by omega)) HK3.out hrge (ansIn0 _ _ R.code) (.inl (by rw [HRR.out]; exact ⟨h0,rfl,rfl⟩)) h7)
  go_wp2
  refine bodyPost_ret (v:=Ans.val (ansC R.code)) ?_ rfl (HEND.out _ ans_keep)
  exact does_results rfl (ans_set (a':=ansC R.code) HA3.out)
 by_cases hi0 : R.ino = 0
 case pos=>
  obtain ⟨z0,z1,z2,z3,z4,z5,z6,z7,z8,z9,z10⟩:=ans_cells HA3.out
  obtain ⟨r0,r1,r2,r3,r4,r5,r6,r7,r8,r9,r10⟩:=ans_frozen HA3.out
  simp only [ans0,zeroND] at z0 z1 z2 z3 z4 z5 z6 z7 z8 z9 z10
  rw [hi0] at s2
  have HEND:=Lib.hid (fun W7 h7=>does_end (c:=c) (W7:=W7) (o:=o) (an:=ansC 160) (p:=ansP0 160) HA3.out (HF3.out.more (by omega)) HK3.out hrge (ansIn0 _ _ 160) (.inr (by rw [HRR.out]; exact ⟨h0,.inr (.inl ⟨by omega,hi0,rfl,rfl⟩)⟩)) h7)
  go_wp2
  refine bodyPost_ret (v:=Ans.val (ansC 160)) ?_ rfl (HEND.out _ ans_keep)
  exact does_results rfl (ans_set (a':=ansC 160) HA3.out)
 obtain ⟨sl,hsl,hsz,hwi⟩:=HWOK.out.slot h0
 have hs1 : sl.1.1 = R.dir:=by rw [hsl]
 have hs2 : sl.1.2 = R.name:=by rw [hsl]
 obtain ⟨a,ha⟩ : ∃ a,fs.N R.ino = some a:=by
  have h:=ok.at_ HWF.out (p:=o.path) (fo:=followsB o.kind) (by rw [HRR.out]; exact h0) (by rw [HRR.out]; exact hi0)
  rw [HRR.out] at h
  exact h
 have hat : AtR fs R sl a:=⟨hsl,hi0,ha⟩
 have hi0' : (R.ino == 0) = false:=by simpa using hi0
 have HDON : Hid (∀ p fs',(p = ansP0 (unlinkC fs sl R.ino a false) ∧ fs' = unlinkS fs sl R.ino a false) → DoesR fs o p fs'):=Lib.hid fun p fs' h=>.inr (by
  rw [HRR.out]
  exact ⟨h0,.inr (.inr ⟨sl,a,hat,.inr (.inr (.inl ⟨by omega,by rw [show (o.kind == 6) = false from by rw [hko]; rfl]; exact h⟩))⟩)⟩)
 have hl:=ok.good R.ino a ha
 have HM:=Lib.hid (fw_unlink (w:=w3) HF3.out sl R.ino a ha hwi ⟨hl.1,hl.2.1⟩ false)
 unfold wkV spotC at HM
 rw [hs1,hs2] at HM
 generalize unlinkC fs sl R.ino a false = code at HM HDON
 go_wp2_with (
  go_at_call 57
  refine HM.out.mono ?_
  rintro e w4 ⟨rfl,own',hF4,hk4⟩
  have HA4:=Lib.hid (KeepF.blk hk4 HA3.out (by decide) (by decide))
  have HEND:=Lib.hid (fun W7 h7=>does_end (c:=c) (W7:=W7) (o:=o) (an:=ansC code) (p:=ansP0 code) HA4.out (hF4.more (by omega)) (HK3.out.trans hk4) hrge (ansIn0 _ _ code) (HDON.out _ _ ⟨rfl,rfl⟩) h7)
  obtain ⟨z0,z1,z2,z3,z4,z5,z6,z7,z8,z9,z10⟩:=ans_cells HA4.out
  obtain ⟨r0,r1,r2,r3,r4,r5,r6,r7,r8,r9,r10⟩:=ans_frozen HA4.out
  simp only [ans0,zeroND] at z0 z1 z2 z3 z4 z5 z6 z7 z8 z9 z10
  clear hF4 hk4)
 refine bodyPost_ret (v:=Ans.val (ansC code)) ?_ rfl (HEND.out _ ans_keep)
 exact does_results rfl (ans_set (a':=ansC code) HA4.out)
set_option maxRecDepth 100000 in
set_option maxHeartbeats 16000000 in
theorem does_6 [Fence] {c : Nat} {w : World} {f b m : Nat} {own : Int → Own} {fs : FS} (h : FlsB c w f b m own fs) (ok : FsOk fs) (hlv : LibV w) (o : OpA) (hz : OpSmall o) (_ho : OpInts o) (_hc : c ≤ 137438953472) (hko : o.kind = 6) (R : WR) (hRR : walkS fs o.path (followsB o.kind) = R)  :
 Calls Tryz.prog 30 #[wkV f,o.val] w (DoesEnds c w f b m fs o):=by
 have hat:=da_at w f o
 have hbx:=da_box w f o
 have hF:=h.below hat.bl
 have hLV:=hlv.below hat.bl
 have hfo : followsB o.kind = false:=by rw [hko]; rfl
 have HW:=Lib.hid (fw_walk hF ok.right ok.good hLV o.path (followsB o.kind) (by have:=hz.path; omega))
 rw [hRR,hfo] at HW
 have HRR:=Lib.hid hRR
 have hwok:=walk_ok ok.right h.wf o.path (followsB o.kind)
 have HWF : Hid (WfG fs):=Lib.hid h.wf
 rw [hRR] at hwok
 have HWOK:=Lib.hid hwok
 unfold wkV OpA.val OpA.cs
 unfold wkV spotC at HW
 have HKO:=Lib.hid hko
 clear h hko hRR hfo hwok
 go_enter Tryz.func30,Tryz.ntmps30
 go_upto_region 1 with fail
 generalize (((w.alloc (.cells #[Pa f] 78)).alloc (.cells #[.int .i64 o.kind,.string o.path,.string o.dest,.string o.name,.int .i64 o.off,.int .i64 o.n,.string o.data] 24)).alloc (.cells #[.int .i64 0,.string ⟨#[]⟩,.slice none 0 0,.slice none 0 0,.int .i64 0,.int .i64 0,.int .i64 0,.int .i64 0,.int .i64 0,.int .i64 0,.string ⟨#[]⟩] 36)) = w1 at *
 have hko:=HKO.out
 obtain ⟨r,hr⟩ : ∃ r,r = w.heap.size + 1 + 1:=⟨_,rfl⟩
 rw [← hr] at hat ⊢
 have HR:=Lib.hid hr
 clear hr
 have d0 : w1.cell? ⟨w.heap.size,0,none⟩ = some (Pa f):=hbx.cell 0
 obtain ⟨o0,o1,-,-,-,-,-⟩:=oc7 hat.op
 have HAT:=Lib.hid hat
 have HF:=Lib.hid hF
 have HBX:=Lib.hid hbx
 have HA1:=Lib.hid hat.an
 have HLV:=Lib.hid hLV
 have hrge : w.heap.size ≤ r:=by rw [HR.out]; omega
 rw [hko] at o0
 clear hat hF hbx hLV
 go_upto_region 13 with (
  go_at_call 53
  refine HW.out.mono ?_
  rintro e w2 ⟨rfl,hb2⟩
  have hb3 : Below w1.heap.size w1 (w2.alloc (.cells #[.int .i64 R.dir,.string R.name,.int .i64 R.ino] 119)):=hb2.alloc hb2.size _
  have HB3:=Lib.hid (bl_t HAT.out.bl hb3)
  have HA3:=Lib.hid (blk_below HA1.out hb3)
  have HF3:=Lib.hid (HF.out.below hb3)
  have HBX3:=Lib.hid (blk_below HBX.out hb3)
  have HO3:=Lib.hid (blk_below HAT.out.op hb3)
  have HLV3:=Lib.hid (HLV.out.below hb3)
  have hs3:=Blk.new w2 119 #[.int .i64 R.dir,.string R.name,.int .i64 R.ino]
  obtain ⟨sp,hsp⟩ : ∃ sp,sp = w2.heap.size:=⟨_,rfl⟩
  rw [← hsp] at hs3
  have HS3:=Lib.hid hs3
  have HSP:=Lib.hid hsp
  clear hb2 hb3 hs3 hsp)
 rw [← HSP.out]
 generalize (w2.alloc (.cells #[.int .i64 R.dir,.string R.name,.int .i64 R.ino] 119)) = w3 at *
 clear d0 o0 o1 HF HBX HA1 HW HLV
 have d0 : w3.cell? ⟨w.heap.size,0,none⟩ = some (Pa f):=HBX3.out.cell 0
 obtain ⟨o0,o1,o2,o3,o4,o5,o6⟩:=oc7 HO3.out
 rw [hko] at o0
 obtain ⟨s0,s1,s2⟩:=sc3 HS3.out
 have HK3 : Hid (KeepF w w3):=Lib.hid (KeepF.of_below HB3.out)
 by_cases h0 : R.code = 0
 case neg=>
  obtain ⟨z0,z1,z2,z3,z4,z5,z6,z7,z8,z9,z10⟩:=ans_cells HA3.out
  obtain ⟨r0,r1,r2,r3,r4,r5,r6,r7,r8,r9,r10⟩:=ans_frozen HA3.out
  simp only [ans0,zeroND] at z0 z1 z2 z3 z4 z5 z6 z7 z8 z9 z10
  have h0' : (R.code != 0) = true:=by simpa using h0
  have HEND:=Lib.hid (fun W7 h7=>does_end (c:=c) (W7:=W7) (o:=o) (an:=ansC R.code) (p:=ansP0 R.code) HA3.out (HF3.out.more (by omega)) HK3.out hrge (ansIn0 _ _ R.code) (.inl (by rw [HRR.out]; exact ⟨h0,rfl,rfl⟩)) h7)
  go_wp2
  refine bodyPost_ret (v:=Ans.val (ansC R.code)) ?_ rfl (HEND.out _ ans_keep)
  exact does_results rfl (ans_set (a':=ansC R.code) HA3.out)
 by_cases hi0 : R.ino = 0
 case pos=>
  obtain ⟨z0,z1,z2,z3,z4,z5,z6,z7,z8,z9,z10⟩:=ans_cells HA3.out
  obtain ⟨r0,r1,r2,r3,r4,r5,r6,r7,r8,r9,r10⟩:=ans_frozen HA3.out
  simp only [ans0,zeroND] at z0 z1 z2 z3 z4 z5 z6 z7 z8 z9 z10
  rw [hi0] at s2
  have HEND:=Lib.hid (fun W7 h7=>does_end (c:=c) (W7:=W7) (o:=o) (an:=ansC 160) (p:=ansP0 160) HA3.out (HF3.out.more (by omega)) HK3.out hrge (ansIn0 _ _ 160) (.inr (by rw [HRR.out]; exact ⟨h0,.inr (.inl ⟨by omega,hi0,rfl,rfl⟩)⟩)) h7)
  go_wp2
  refine bodyPost_ret (v:=Ans.val (ansC 160)) ?_ rfl (HEND.out _ ans_keep)
  exact does_results rfl (ans_set (a':=ansC 160) HA3.out)
 obtain ⟨sl,hsl,hsz,hwi⟩:=HWOK.out.slot h0
 have hs1 : sl.1.1 = R.dir:=by rw [hsl]
 have hs2 : sl.1.2 = R.name:=by rw [hsl]
 obtain ⟨a,ha⟩ : ∃ a,fs.N R.ino = some a:=by
  have h:=ok.at_ HWF.out (p:=o.path) (fo:=followsB o.kind) (by rw [HRR.out]; exact h0) (by rw [HRR.out]; exact hi0)
  rw [HRR.out] at h
  exact h
 have hat : AtR fs R sl a:=⟨hsl,hi0,ha⟩
 have hi0' : (R.ino == 0) = false:=by simpa using hi0
 have HDON : Hid (∀ p fs',(p = ansP0 (unlinkC fs sl R.ino a true) ∧ fs' = unlinkS fs sl R.ino a true) → DoesR fs o p fs'):=Lib.hid fun p fs' h=>.inr (by
  rw [HRR.out]
  exact ⟨h0,.inr (.inr ⟨sl,a,hat,.inr (.inr (.inl ⟨by omega,by rw [show (o.kind == 6) = true from by rw [hko]; rfl]; exact h⟩))⟩)⟩)
 have hl:=ok.good R.ino a ha
 have HM:=Lib.hid (fw_unlink (w:=w3) HF3.out sl R.ino a ha hwi ⟨hl.1,hl.2.1⟩ true)
 unfold wkV spotC at HM
 rw [hs1,hs2] at HM
 generalize unlinkC fs sl R.ino a true = code at HM HDON
 go_wp2_with (
  go_at_call 57
  refine HM.out.mono ?_
  rintro e w4 ⟨rfl,own',hF4,hk4⟩
  have HA4:=Lib.hid (KeepF.blk hk4 HA3.out (by decide) (by decide))
  have HEND:=Lib.hid (fun W7 h7=>does_end (c:=c) (W7:=W7) (o:=o) (an:=ansC code) (p:=ansP0 code) HA4.out (hF4.more (by omega)) (HK3.out.trans hk4) hrge (ansIn0 _ _ code) (HDON.out _ _ ⟨rfl,rfl⟩) h7)
  obtain ⟨z0,z1,z2,z3,z4,z5,z6,z7,z8,z9,z10⟩:=ans_cells HA4.out
  obtain ⟨r0,r1,r2,r3,r4,r5,r6,r7,r8,r9,r10⟩:=ans_frozen HA4.out
  simp only [ans0,zeroND] at z0 z1 z2 z3 z4 z5 z6 z7 z8 z9 z10
  clear hF4 hk4)
 refine bodyPost_ret (v:=Ans.val (ansC code)) ?_ rfl (HEND.out _ ans_keep)
 exact does_results rfl (ans_set (a':=ansC code) HA4.out)
set_option maxRecDepth 100000 in
set_option maxHeartbeats 16000000 in
theorem does_7 [Fence] {c : Nat} {w : World} {f b m : Nat} {own : Int → Own} {fs : FS} (h : FlsB c w f b m own fs) (ok : FsOk fs) (hlv : LibV w) (o : OpA) (hz : OpSmall o) (_ho : OpInts o) (hc : c ≤ 137438953472) (hko : o.kind = 7) (R : WR) (hRR : walkS fs o.path (followsB o.kind) = R)  :
 Calls Tryz.prog 30 #[wkV f,o.val] w (DoesEnds c w f b m fs o):=by
 have hat:=da_at w f o
 have hbx:=da_box w f o
 have hF:=h.below hat.bl
 have hLV:=hlv.below hat.bl
 have hfo : followsB o.kind = false:=by rw [hko]; rfl
 have HW:=Lib.hid (fw_walk hF ok.right ok.good hLV o.path (followsB o.kind) (by have:=hz.path; omega))
 rw [hRR,hfo] at HW
 have HRR:=Lib.hid hRR
 have hwok:=walk_ok ok.right h.wf o.path (followsB o.kind)
 have HWF : Hid (WfG fs):=Lib.hid h.wf
 rw [hRR] at hwok
 have HWOK:=Lib.hid hwok
 unfold wkV OpA.val OpA.cs
 unfold wkV spotC at HW
 have HKO:=Lib.hid hko
 clear h hko hRR hfo hwok
 go_enter Tryz.func30,Tryz.ntmps30
 go_upto_region 1 with fail
 generalize (((w.alloc (.cells #[Pa f] 78)).alloc (.cells #[.int .i64 o.kind,.string o.path,.string o.dest,.string o.name,.int .i64 o.off,.int .i64 o.n,.string o.data] 24)).alloc (.cells #[.int .i64 0,.string ⟨#[]⟩,.slice none 0 0,.slice none 0 0,.int .i64 0,.int .i64 0,.int .i64 0,.int .i64 0,.int .i64 0,.int .i64 0,.string ⟨#[]⟩] 36)) = w1 at *
 have hko:=HKO.out
 obtain ⟨r,hr⟩ : ∃ r,r = w.heap.size + 1 + 1:=⟨_,rfl⟩
 rw [← hr] at hat ⊢
 have HR:=Lib.hid hr
 clear hr
 have d0 : w1.cell? ⟨w.heap.size,0,none⟩ = some (Pa f):=hbx.cell 0
 obtain ⟨o0,o1,-,-,-,-,-⟩:=oc7 hat.op
 have HAT:=Lib.hid hat
 have HF:=Lib.hid hF
 have HBX:=Lib.hid hbx
 have HA1:=Lib.hid hat.an
 have HLV:=Lib.hid hLV
 have hrge : w.heap.size ≤ r:=by rw [HR.out]; omega
 rw [hko] at o0
 clear hat hF hbx hLV
 go_upto_region 13 with (
  go_at_call 53
  refine HW.out.mono ?_
  rintro e w2 ⟨rfl,hb2⟩
  have hb3 : Below w1.heap.size w1 (w2.alloc (.cells #[.int .i64 R.dir,.string R.name,.int .i64 R.ino] 119)):=hb2.alloc hb2.size _
  have HB3:=Lib.hid (bl_t HAT.out.bl hb3)
  have HA3:=Lib.hid (blk_below HA1.out hb3)
  have HF3:=Lib.hid (HF.out.below hb3)
  have HBX3:=Lib.hid (blk_below HBX.out hb3)
  have HO3:=Lib.hid (blk_below HAT.out.op hb3)
  have HLV3:=Lib.hid (HLV.out.below hb3)
  have hs3:=Blk.new w2 119 #[.int .i64 R.dir,.string R.name,.int .i64 R.ino]
  obtain ⟨sp,hsp⟩ : ∃ sp,sp = w2.heap.size:=⟨_,rfl⟩
  rw [← hsp] at hs3
  have HS3:=Lib.hid hs3
  have HSP:=Lib.hid hsp
  clear hb2 hb3 hs3 hsp)
 rw [← HSP.out]
 generalize (w2.alloc (.cells #[.int .i64 R.dir,.string R.name,.int .i64 R.ino] 119)) = w3 at *
 clear d0 o0 o1 HF HBX HA1 HW HLV
 have d0 : w3.cell? ⟨w.heap.size,0,none⟩ = some (Pa f):=HBX3.out.cell 0
 obtain ⟨o0,o1,o2,o3,o4,o5,o6⟩:=oc7 HO3.out
 rw [hko] at o0
 obtain ⟨s0,s1,s2⟩:=sc3 HS3.out
 have HK3 : Hid (KeepF w w3):=Lib.hid (KeepF.of_below HB3.out)
 by_cases h0 : R.code = 0
 case neg=>
  obtain ⟨z0,z1,z2,z3,z4,z5,z6,z7,z8,z9,z10⟩:=ans_cells HA3.out
  obtain ⟨r0,r1,r2,r3,r4,r5,r6,r7,r8,r9,r10⟩:=ans_frozen HA3.out
  simp only [ans0,zeroND] at z0 z1 z2 z3 z4 z5 z6 z7 z8 z9 z10
  have h0' : (R.code != 0) = true:=by simpa using h0
  have HEND:=Lib.hid (fun W7 h7=>does_end (c:=c) (W7:=W7) (o:=o) (an:=ansC R.code) (p:=ansP0 R.code) HA3.out (HF3.out.more (by omega)) HK3.out hrge (ansIn0 _ _ R.code) (.inl (by rw [HRR.out]; exact ⟨h0,rfl,rfl⟩)) h7)
  go_wp2
  refine bodyPost_ret (v:=Ans.val (ansC R.code)) ?_ rfl (HEND.out _ ans_keep)
  exact does_results rfl (ans_set (a':=ansC R.code) HA3.out)
 by_cases hi0 : R.ino = 0
 case pos=>
  obtain ⟨z0,z1,z2,z3,z4,z5,z6,z7,z8,z9,z10⟩:=ans_cells HA3.out
  obtain ⟨r0,r1,r2,r3,r4,r5,r6,r7,r8,r9,r10⟩:=ans_frozen HA3.out
  simp only [ans0,zeroND] at z0 z1 z2 z3 z4 z5 z6 z7 z8 z9 z10
  rw [hi0] at s2
  have HEND:=Lib.hid (fun W7 h7=>does_end (c:=c) (W7:=W7) (o:=o) (an:=ansC 160) (p:=ansP0 160) HA3.out (HF3.out.more (by omega)) HK3.out hrge (ansIn0 _ _ 160) (.inr (by rw [HRR.out]; exact ⟨h0,.inr (.inl ⟨by omega,hi0,rfl,rfl⟩)⟩)) h7)
  go_wp2
  refine bodyPost_ret (v:=Ans.val (ansC 160)) ?_ rfl (HEND.out _ ans_keep)
  exact does_results rfl (ans_set (a':=ansC 160) HA3.out)
 obtain ⟨sl,hsl,hsz,hwi⟩:=HWOK.out.slot h0
 have hs1 : sl.1.1 = R.dir:=by rw [hsl]
 have hs2 : sl.1.2 = R.name:=by rw [hsl]
 obtain ⟨a,ha⟩ : ∃ a,fs.N R.ino = some a:=by
  have h:=ok.at_ HWF.out (p:=o.path) (fo:=followsB o.kind) (by rw [HRR.out]; exact h0) (by rw [HRR.out]; exact hi0)
  rw [HRR.out] at h
  exact h
 have hat : AtR fs R sl a:=⟨hsl,hi0,ha⟩
 have hi0' : (R.ino == 0) = false:=by simpa using hi0
 have HDON : Hid (∀ p fs',(∃ code,RenR fs sl R.ino a o.dest code fs' ∧ p = ansP0 code) → DoesR fs o p fs'):=Lib.hid fun p fs' h=>.inr (by
  rw [HRR.out]
  exact ⟨h0,.inr (.inr ⟨sl,a,hat,.inr (.inl ⟨hko,h⟩)⟩)⟩)
 have HM:=Lib.hid (fw_rename (w:=w3) HF3.out ok.right ok.good ok.names HLV3.out sl R.ino a ha hwi o.dest (by have:=hz.dest; omega) (by omega))
 unfold wkV spotC at HM
 rw [hs1,hs2] at HM
 go_wp2_with (
  go_at_call 56
  refine HM.out.mono ?_
  rintro e w4 ⟨code,fs',own',rfl,hm4,hF4,hk4⟩
  have HA4:=Lib.hid (KeepF.blk hk4 HA3.out (by decide) (by decide))
  have HEND:=Lib.hid (fun W7 h7=>does_end (c:=c) (W7:=W7) (o:=o) (an:=ansC code) (p:=ansP0 code) HA4.out (hF4.more (by omega)) (HK3.out.trans hk4) hrge (ansIn0 _ _ code) (HDON.out _ fs' ⟨code,hm4,rfl⟩) h7)
  obtain ⟨z0,z1,z2,z3,z4,z5,z6,z7,z8,z9,z10⟩:=ans_cells HA4.out
  obtain ⟨r0,r1,r2,r3,r4,r5,r6,r7,r8,r9,r10⟩:=ans_frozen HA4.out
  simp only [ans0,zeroND] at z0 z1 z2 z3 z4 z5 z6 z7 z8 z9 z10
  clear hF4 hk4 hm4)
 refine bodyPost_ret (v:=Ans.val (ansC code)) ?_ rfl (HEND.out _ ans_keep)
 exact does_results rfl (ans_set (a':=ansC code) HA4.out)
end Go.Proofs.YtpboohfofodeeaaGreatDoor
