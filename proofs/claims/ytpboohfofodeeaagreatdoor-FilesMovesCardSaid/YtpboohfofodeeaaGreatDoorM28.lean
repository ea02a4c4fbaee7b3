/- files: data (conditions: none; printed by gen_data.py). -/
import Derived.Test.YtpboohfofodeeaaGreatDoorM27
namespace Go.Proofs.YtpboohfofodeeaaGreatDoor
open Go.RowKit Go.Maps
set_option maxRecDepth 100000 in
set_option maxHeartbeats 8000000 in
theorem fw_data_dir [Fence] {c : Nat} {w : World} {f b m : Nat} {own : Int → Own} {fs : FS} (h : FlsB c w f b m own fs) (ino : Int) (a : NodeA) (ha : fs.N ino = some a) (_hck : a.nd.kind ≠ 2 → checkP a.nd.size a.ps) (o : OpA) (_hz : OpSmall o) (_ho : OpInts o) (_hc : c ≤ 274877906944) (hk2 : a.nd.kind = 2) :
 Calls Tryz.prog 58 #[wkV f,ptrG (own ino).g,o.val] w (DataEnds c w f b m fs ino a o):=by
 have hat:=da_at w f o
 have hF:=h.below hat.bl
 have hN:=hF.node ino a ha
 have hrow:=hN.row
 obtain ⟨A,q,hv,hR,hq,hpb⟩:=hrow
 have hblk:=hN.blk
 rw [hv] at hblk
 have HH:=Lib.hid h
 have few:=hN.few
 unfold wkV ptrG OpA.val OpA.cs
 clear h hN
 go_enter Tryz.func58,Tryz.ntmps58
 go_upto_region 1 with fail
 generalize (((w.alloc (.cells #[Pa f] 78)).alloc (.cells #[.int .i64 o.kind,.string o.path,.string o.dest,.string o.name,.int .i64 o.off,.int .i64 o.n,.string o.data] 24)).alloc (.cells #[.int .i64 0,.string ⟨#[]⟩,.slice none 0 0,.slice none 0 0,.int .i64 0,.int .i64 0,.int .i64 0,.int .i64 0,.int .i64 0,.int .i64 0,.string ⟨#[]⟩] 36)) = w1 at *
 obtain ⟨r,hr⟩ : ∃ r,r = w.heap.size + 1 + 1:=⟨_,rfl⟩
 rw [← hr] at hat ⊢
 have HR:=Lib.hid hr
 clear hr
 have k0 : w1.cell? ⟨(own ino).g,0,none⟩ = some (.int .i64 a.nd.kind):=hblk.cell 0
 have k4 : w1.cell? ⟨(own ino).g,4,none⟩ = some (.int .i64 a.nd.size):=hblk.cell 4
 have k6 : w1.cell? ⟨(own ino).g,6,none⟩ = some (.slice A a.ps.length q):=hblk.cell 6
 obtain ⟨o0,o1,o2,o3,o4,o5,o6⟩:=oc7 hat.op
 have HAT:=Lib.hid hat
 have HF:=Lib.hid hF
 have HBK:=Lib.hid hblk
 have HRP:=Lib.hid hR
 have HPB:=Lib.hid hpb
 have HVV:=Lib.hid hv
 clear hat hF hblk hR hpb hv
 generalize hps : a.ps.length = np at *
 have HPS:=Lib.hid hps
 clear hps
 generalize hg : (own ino).g = g at *
 have HG:=Lib.hid hg
 clear hg
 obtain ⟨z0,z1,z2,z3,z4,z5,z6,z7,z8,z9,z10⟩:=ans_cells HAT.out.an
 obtain ⟨r0,r1,r2,r3,r4,r5,r6,r7,r8,r9,r10⟩:=ans_frozen HAT.out.an
 simp only [ans0,zeroND] at z0 z1 z2 z3 z4 z5 z6 z7 z8 z9 z10
 rw [hk2] at k0
 go_wp2
 refine bodyPost_ret (v:=Ans.val (ansC 163)) ?_ rfl ?_
 ·exact data_results rfl (ans_set (a':=ansC 163) HAT.out.an)
 ·have hd : dataC a o = 163:=by unfold dataC; rw [if_pos hk2]
  have e : dataA a o = ansP0 163:=by unfold dataA; rw [hd,if_neg (by omega),if_neg (by omega)]; rfl
  have hfs : dataFS fs ino a o = fs:=by unfold dataFS; rw [hd,if_neg (by omega)]
  refine data_end (_ino':=0) (r:=r) HAT.out.an (own':=own) (by rw [hfs]; exact HF.out.more (by omega)) (KeepF.of_below HAT.out.bl) (by rw [HR.out]; omega) (by rw [e]; exact ansIn0 _ _ 163) ?_
  exact ans_keep
set_option maxRecDepth 100000 in
set_option maxHeartbeats 8000000 in
theorem fw_data_9_no [Fence] {c : Nat} {w : World} {f b m : Nat} {own : Int → Own} {fs : FS} (h : FlsB c w f b m own fs) (ino : Int) (a : NodeA) (ha : fs.N ino = some a) (hck : a.nd.kind ≠ 2 → checkP a.nd.size a.ps) (o : OpA) (_hz : OpSmall o) (ho : OpInts o) (hc : c ≤ 274877906944) (hk2 : a.nd.kind ≠ 2) (hko : o.kind = 9) (hC : dataC a o ≠ 0) :
 Calls Tryz.prog 58 #[wkV f,ptrG (own ino).g,o.val] w (DataEnds c w f b m fs ino a o):=by
 have hat:=da_at w f o
 have hF:=h.below hat.bl
 have hN:=hF.node ino a ha
 have hrow:=hN.row
 obtain ⟨A,q,hv,hR,hq,hpb⟩:=hrow
 have hblk:=hN.blk
 rw [hv] at hblk
 have HH:=Lib.hid h
 have few:=hN.few
 unfold wkV ptrG OpA.val OpA.cs
 clear h hN
 have HKO:=Lib.hid hko
 clear hko
 go_enter Tryz.func58,Tryz.ntmps58
 go_upto_region 1 with fail
 generalize (((w.alloc (.cells #[Pa f] 78)).alloc (.cells #[.int .i64 o.kind,.string o.path,.string o.dest,.string o.name,.int .i64 o.off,.int .i64 o.n,.string o.data] 24)).alloc (.cells #[.int .i64 0,.string ⟨#[]⟩,.slice none 0 0,.slice none 0 0,.int .i64 0,.int .i64 0,.int .i64 0,.int .i64 0,.int .i64 0,.int .i64 0,.string ⟨#[]⟩] 36)) = w1 at *
 have hko:=HKO.out
 obtain ⟨r,hr⟩ : ∃ r,r = w.heap.size + 1 + 1:=⟨_,rfl⟩
 rw [← hr] at hat ⊢
 have HR:=Lib.hid hr
 clear hr
 have k0 : w1.cell? ⟨(own ino).g,0,none⟩ = some (.int .i64 a.nd.kind):=hblk.cell 0
 have k4 : w1.cell? ⟨(own ino).g,4,none⟩ = some (.int .i64 a.nd.size):=hblk.cell 4
 have k6 : w1.cell? ⟨(own ino).g,6,none⟩ = some (.slice A a.ps.length q):=hblk.cell 6
 obtain ⟨o0,o1,o2,o3,o4,o5,o6⟩:=oc7 hat.op
 have HAT:=Lib.hid hat
 have HF:=Lib.hid hF
 have HBK:=Lib.hid hblk
 have HRP:=Lib.hid hR
 have HPB:=Lib.hid hpb
 have HVV:=Lib.hid hv
 clear hat hF hblk hR hpb hv
 generalize hps : a.ps.length = np at *
 have HPS:=Lib.hid hps
 clear hps
 generalize hg : (own ino).g = g at *
 have HG:=Lib.hid hg
 clear hg
 have hk2' : (a.nd.kind == 2) = false:=by simpa using hk2
 have hck:=hck hk2
 rw [hko] at o0
 go_upto_region 3 with fail
 go_quiet (fail)
 have hb2 : Below w1.heap.size w1 (w1.drewN nq):=⟨rfl,rfl,rfl,Nat.le_refl _,fun _ _=>rfl⟩
 have p0:=keepc' hb2 o0
 have p4:=keepc' hb2 o4
 have p5:=keepc' hb2 o5
 have p6:=keepc' hb2 o6
 have hA2:=HAT.out.an.drewN nq
 have hN2:=HBK.out.drewN nq
 have HRP2 : Hid (RdP (w1.drewN nq) A np a.ps):=Lib.hid (HRP.out.below hb2)
 have HF2 : Hid (FlsB c (w1.drewN nq) f b m own fs):=Lib.hid (HF.out.below hb2)
 have HB2:=Lib.hid (bl_t HAT.out.bl hb2)
 have HCALL : Hid (Calls Tryz.prog 111 #[.slice A np q,.int .i64 a.nd.size,.int .i64 o.off,.int .i64 o.n] (w1.drewN nq) fun e w'=>(e = .returned (.tuple #[.string ⟨#[]⟩,.int .i64 (dataC a o)])) ∧ Below (w1.drewN nq).heap.size (w1.drewN nq) w'):=Lib.hid ((sp_read a.nd.size o.off o.n ho.off (HRP2.out) (by omega)).mono fun e w' ⟨he,hb⟩=>⟨by
  unfold dataC at hC ⊢
  rw [if_neg hk2,if_pos hko] at hC ⊢
  rcases he with ⟨h,_⟩ | ⟨_,h1,h⟩ | ⟨_,h1,h⟩
  ·exact absurd hck h
  ·rw [if_pos h1]; exact h
  ·rw [if_neg (by omega)] at hC; exact absurd rfl hC,hb⟩)
 generalize w1.drewN nq = w2 at *
 clear HAT HF HRP hb2
 go_wp2_with fail
 refine HCALL.out.mono ?_
 rintro e w3 ⟨rfl,hb3⟩
 have hA3:=blk_below hA2 hb3
 have hN3:=blk_below hN2 hb3
 have hF3:=HF2.out.below hb3
 have HB3:=Lib.hid (bl_t HB2.out hb3)
 have fz:=hA3.frozen
 have f0:=fz 0
 have f1:=fz 1
 have f3:=fz 3
 have x0 : w3.cell? ⟨r,0,none⟩ = some (.int .i64 0):=hA3.cell 0
 have x1 : w3.cell? ⟨r,1,none⟩ = some (.string ⟨#[]⟩):=hA3.cell 1
 have y0 : (w3.setCell ⟨r,1,none⟩ (.string ⟨#[]⟩)).cell? ⟨r,0,none⟩ = some (.int .i64 0):=(hA3.set_ 1 (.string ⟨#[]⟩)).cell 0
 have yf : (w3.setCell ⟨r,1,none⟩ (.string ⟨#[]⟩)).frozen? ⟨r,0,none⟩ = false:=(hA3.set_ 1 (.string ⟨#[]⟩)).frozen 0
 have hA4 : Blk ((w3.setCell ⟨r,1,none⟩ (.string ⟨#[]⟩)).setCell ⟨r,0,none⟩ (.int .i64 (dataC a o))) r 36 (Ans.cs { ansC (dataC a o) with data:=⟨#[]⟩ }):=((hA3.set_ 1 (.string ⟨#[]⟩)).set_ 0 (.int .i64 (dataC a o)))
 have hk4 : Keep (fun i=>i = r) w3 ((w3.setCell ⟨r,1,none⟩ (.string ⟨#[]⟩)).setCell ⟨r,0,none⟩ (.int .i64 (dataC a o))):=(keep_set (keep_set (Keep.refl (fun i=>i = r) w3) 1 (.string ⟨#[]⟩)) 0 (.int .i64 (dataC a o)))
 have hF4:=hF3.ans_ hA3 hk4
 have hrge : w.heap.size ≤ r:=by rw [HR.out]; omega
 have hK4 : KeepF w ((w3.setCell ⟨r,1,none⟩ (.string ⟨#[]⟩)).setCell ⟨r,0,none⟩ (.int .i64 (dataC a o))):=(KeepF.of_below HB3.out).own hrge hk4
 have hN4:=hN3.keep hk4 (Blk.ne_ hN3 hA3 (by decide))
 have hi4 : AnsIn ((w3.setCell ⟨r,1,none⟩ (.string ⟨#[]⟩)).setCell ⟨r,0,none⟩ (.int .i64 (dataC a o))) w.heap.size ({ ansC (dataC a o) with data:=⟨#[]⟩ }) (dataA a o):=by
  have h:=ansIn0 ((w3.setCell ⟨r,1,none⟩ (.string ⟨#[]⟩)).setCell ⟨r,0,none⟩ (.int .i64 (dataC a o))) w.heap.size (dataC a o)
  have e : dataA a o = ansP0 (dataC a o):=by unfold dataA; rw [if_neg (fun h=>hC h.2),if_neg (fun h=>hC h.2)]; rfl
  rw [e]
  exact h
 have hfs : dataFS fs ino a o = fs:=by unfold dataFS; rw [if_neg hC]
 have hF5 : FlsB (c + 5000) ((w3.setCell ⟨r,1,none⟩ (.string ⟨#[]⟩)).setCell ⟨r,0,none⟩ (.int .i64 (dataC a o))) f b m own (dataFS fs ino a o):=by rw [hfs]; exact hF4.more (by omega)
 obtain ⟨z0,z1,z2,z3,z4,z5,z6,z7,z8,z9,z10⟩:=ans_cells hA4
 obtain ⟨r0,r1,r2,r3,r4,r5,r6,r7,r8,r9,r10⟩:=ans_frozen hA4
 simp only [ansC,ans0,zeroND] at z0 z1 z2 z3 z4 z5 z6 z7 z8 z9 z10
 have HA6:=Lib.hid hA4
 have HEND:=Lib.hid (fun W7 (h7 : Keep (fun i=>i = r) ((w3.setCell ⟨r,1,none⟩ (.string ⟨#[]⟩)).setCell ⟨r,0,none⟩ (.int .i64 (dataC a o))) W7)=>data_end (_ino':=0) hA4 hF5 hK4 hrge hi4 h7)
 have hCb : (dataC a o == 0) = false:=by simpa using hC
 clear hA2 hA3 hN2 hN3 hF3 hb3 hk4 hA4 hF4 hK4 hN4 hi4 hF5 hfs fz
 go_wp2
 refine bodyPost_ret (v:=Ans.val ({ ansC (dataC a o) with data:=⟨#[]⟩ })) ?_ rfl (HEND.out _ ans_keep)
 exact data_results rfl (ans_set (a':={ ansC (dataC a o) with data:=⟨#[]⟩ }) HA6.out)
set_option maxRecDepth 100000 in
set_option maxHeartbeats 8000000 in
theorem fw_data_9_ok [Fence] {c : Nat} {w : World} {f b m : Nat} {own : Int → Own} {fs : FS} (h : FlsB c w f b m own fs) (ino : Int) (a : NodeA) (ha : fs.N ino = some a) (hck : a.nd.kind ≠ 2 → checkP a.nd.size a.ps) (o : OpA) (_hz : OpSmall o) (ho : OpInts o) (hc : c ≤ 274877906944) (hk2 : a.nd.kind ≠ 2) (hko : o.kind = 9) (hC : dataC a o = 0) :
 Calls Tryz.prog 58 #[wkV f,ptrG (own ino).g,o.val] w (DataEnds c w f b m fs ino a o):=by
 have hat:=da_at w f o
 have hF:=h.below hat.bl
 have hN:=hF.node ino a ha
 have hrow:=hN.row
 obtain ⟨A,q,hv,hR,hq,hpb⟩:=hrow
 have hblk:=hN.blk
 rw [hv] at hblk
 have HH:=Lib.hid h
 have few:=hN.few
 unfold wkV ptrG OpA.val OpA.cs
 clear h hN
 have HKO:=Lib.hid hko
 clear hko
 go_enter Tryz.func58,Tryz.ntmps58
 go_upto_region 1 with fail
 generalize (((w.alloc (.cells #[Pa f] 78)).alloc (.cells #[.int .i64 o.kind,.string o.path,.string o.dest,.string o.name,.int .i64 o.off,.int .i64 o.n,.string o.data] 24)).alloc (.cells #[.int .i64 0,.string ⟨#[]⟩,.slice none 0 0,.slice none 0 0,.int .i64 0,.int .i64 0,.int .i64 0,.int .i64 0,.int .i64 0,.int .i64 0,.string ⟨#[]⟩] 36)) = w1 at *
 have hko:=HKO.out
 obtain ⟨r,hr⟩ : ∃ r,r = w.heap.size + 1 + 1:=⟨_,rfl⟩
 rw [← hr] at hat ⊢
 have HR:=Lib.hid hr
 clear hr
 have k0 : w1.cell? ⟨(own ino).g,0,none⟩ = some (.int .i64 a.nd.kind):=hblk.cell 0
 have k4 : w1.cell? ⟨(own ino).g,4,none⟩ = some (.int .i64 a.nd.size):=hblk.cell 4
 have k6 : w1.cell? ⟨(own ino).g,6,none⟩ = some (.slice A a.ps.length q):=hblk.cell 6
 obtain ⟨o0,o1,o2,o3,o4,o5,o6⟩:=oc7 hat.op
 have HAT:=Lib.hid hat
 have HF:=Lib.hid hF
 have HBK:=Lib.hid hblk
 have HRP:=Lib.hid hR
 have HPB:=Lib.hid hpb
 have HVV:=Lib.hid hv
 clear hat hF hblk hR hpb hv
 generalize hps : a.ps.length = np at *
 have HPS:=Lib.hid hps
 clear hps
 generalize hg : (own ino).g = g at *
 have HG:=Lib.hid hg
 clear hg
 have hk2' : (a.nd.kind == 2) = false:=by simpa using hk2
 have hck:=hck hk2
 rw [hko] at o0
 go_upto_region 3 with fail
 go_quiet (fail)
 have hb2 : Below w1.heap.size w1 (w1.drewN nq):=⟨rfl,rfl,rfl,Nat.le_refl _,fun _ _=>rfl⟩
 have p0:=keepc' hb2 o0
 have p4:=keepc' hb2 o4
 have p5:=keepc' hb2 o5
 have p6:=keepc' hb2 o6
 have hA2:=HAT.out.an.drewN nq
 have hN2:=HBK.out.drewN nq
 have HRP2 : Hid (RdP (w1.drewN nq) A np a.ps):=Lib.hid (HRP.out.below hb2)
 have HF2 : Hid (FlsB c (w1.drewN nq) f b m own fs):=Lib.hid (HF.out.below hb2)
 have HB2:=Lib.hid (bl_t HAT.out.bl hb2)
 have HCALL : Hid (Calls Tryz.prog 111 #[.slice A np q,.int .i64 a.nd.size,.int .i64 o.off,.int .i64 o.n] (w1.drewN nq) fun e w'=>(e = .returned (.tuple #[.string (readS a.nd.size o.off o.n a.ps),.int .i64 0])) ∧ Below (w1.drewN nq).heap.size (w1.drewN nq) w'):=Lib.hid ((sp_read a.nd.size o.off o.n ho.off (HRP2.out) (by omega)).mono fun e w' ⟨he,hb⟩=>⟨by
  unfold dataC at hC
  rw [if_neg hk2,if_pos hko] at hC
  rcases he with ⟨h,_⟩ | ⟨_,h,_⟩ | ⟨_,_,h⟩
  ·exact absurd hck h
  ·rw [if_pos h] at hC; cases hC
  ·exact h,hb⟩)
 have HW12:=Lib.hid hb2
 generalize w1.drewN nq = w2 at *
 clear HAT HF HRP hb2
 go_wp2_with fail
 refine HCALL.out.mono ?_
 rintro e w3 ⟨rfl,hb3⟩
 have hA3:=blk_below hA2 hb3
 have hN3:=blk_below hN2 hb3
 have hF3:=HF2.out.below hb3
 have HB3:=Lib.hid (bl_t HB2.out hb3)
 have fz:=hA3.frozen
 have f0:=fz 0
 have f1:=fz 1
 have f3:=fz 3
 have x0 : w3.cell? ⟨r,0,none⟩ = some (.int .i64 0):=hA3.cell 0
 have x1 : w3.cell? ⟨r,1,none⟩ = some (.string ⟨#[]⟩):=hA3.cell 1
 have y0 : (w3.setCell ⟨r,1,none⟩ (.string (readS a.nd.size o.off o.n a.ps))).cell? ⟨r,0,none⟩ = some (.int .i64 0):=(hA3.set_ 1 (.string (readS a.nd.size o.off o.n a.ps))).cell 0
 have yf : (w3.setCell ⟨r,1,none⟩ (.string (readS a.nd.size o.off o.n a.ps))).frozen? ⟨r,0,none⟩ = false:=(hA3.set_ 1 (.string (readS a.nd.size o.off o.n a.ps))).frozen 0
 have hA4 : Blk ((w3.setCell ⟨r,1,none⟩ (.string (readS a.nd.size o.off o.n a.ps))).setCell ⟨r,0,none⟩ (.int .i64 0)) r 36 (Ans.cs { ansC 0 with data:=readS a.nd.size o.off o.n a.ps }):=((hA3.set_ 1 (.string (readS a.nd.size o.off o.n a.ps))).set_ 0 (.int .i64 0))
 have hk4 : Keep (fun i=>i = r) w3 ((w3.setCell ⟨r,1,none⟩ (.string (readS a.nd.size o.off o.n a.ps))).setCell ⟨r,0,none⟩ (.int .i64 0)):=(keep_set (keep_set (Keep.refl (fun i=>i = r) w3) 1 (.string (readS a.nd.size o.off o.n a.ps))) 0 (.int .i64 0))
 have hF4:=hF3.ans_ hA3 hk4
 have hrge : w.heap.size ≤ r:=by rw [HR.out]; omega
 have hK4 : KeepF w ((w3.setCell ⟨r,1,none⟩ (.string (readS a.nd.size o.off o.n a.ps))).setCell ⟨r,0,none⟩ (.int .i64 0)):=(KeepF.of_below HB3.out).own hrge hk4
 have hN4:=hN3.keep hk4 (Blk.ne_ hN3 hA3 (by decide))
 have hlay:=hF4.lay_ (d:=c + 5000) ino a ha a.ps a.nd.size A q (by omega) (by rw [HPS.out]; omega) (by
  have h:=HRP2.out.below hb3
  have hp : ∀ g' o',A = some ⟨g',o',none⟩ → ∃ cs,Blk w3 g' 111 cs:=fun g' o' e=>by
   obtain ⟨cs,hcs⟩:=HPB.out g' o' e
   exact ⟨cs,blk_below (hcs.keep (Keep.of_below (show Below w1.heap.size w1 w2 from HW12.out) (fun _=>False)) (fun h=>h)) hb3⟩
  rw [HPS.out]
  exact ⟨h.1,fun hn=>by
   obtain ⟨g',o',e,hc⟩:=h.2 hn
   obtain ⟨cs,hcs⟩:=hp g' o' e
   have hne : ¬ g' = r:=Blk.ne_ hcs hA3 (by decide)
   exact ⟨g',o',e,fun j x hx=>⟨hk4.cell (hc j x hx).1 hne,hk4.cell (hc j x hx).2 hne⟩⟩⟩) (by rw [HPS.out]; exact hq) (fun g' o' e=>by
   obtain ⟨cs,hcs⟩:=HPB.out g' o' e
   have h3:=blk_below (hcs.keep (Keep.of_below (show Below w1.heap.size w1 w2 from HW12.out) (fun _=>False)) (fun h=>h)) hb3
   exact ⟨cs,h3.keep hk4 (Blk.ne_ h3 hA3 (by decide))⟩)
 rw [HG.out,HPS.out] at hlay
 have hA6:=KeepF.blk hlay.2 hA4 (by decide) (by decide)
 have hK6:=hK4.trans hlay.2
 have hF6 : ∃ own',FlsB (c + 5000) ((((w3.setCell ⟨r,1,none⟩ (.string (readS a.nd.size o.off o.n a.ps))).setCell ⟨r,0,none⟩ (.int .i64 0)).setCell ⟨g,6,none⟩ (.slice A np q)).setCell ⟨g,4,none⟩ (.int .i64 a.nd.size)) f b m own' (dataFS fs ino a o):=by
  have e : dataFS fs ino a o = { fs with N:=upd fs.N ino { a with nd:={ a.nd with size:=a.nd.size },ps:=a.ps } }:=by
   unfold dataFS dataNA
   rw [if_pos hC]
   unfold dataPS dataSZ
   rw [if_neg (by omega),if_neg (by omega),if_neg (by omega),if_neg (by omega),if_neg (by omega)]
  rw [e]
  exact ⟨_,hlay.1⟩
 obtain ⟨own',hF6⟩:=hF6
 have hi6 : AnsIn ((((w3.setCell ⟨r,1,none⟩ (.string (readS a.nd.size o.off o.n a.ps))).setCell ⟨r,0,none⟩ (.int .i64 0)).setCell ⟨g,6,none⟩ (.slice A np q)).setCell ⟨g,4,none⟩ (.int .i64 a.nd.size)) w.heap.size ({ ansC 0 with data:=readS a.nd.size o.off o.n a.ps }) (dataA a o):=by
  have e : dataA a o = { ansP0 0 with data:=readS a.nd.size o.off o.n a.ps }:=by unfold dataA; rw [if_pos ⟨hko,hC⟩,if_neg (by omega),hC]; rfl
  rw [e]
  exact ⟨rfl,rfl,World.ownsRow_nil _ _ _ _,World.ownsRow_nil _ _ _ _,rfl,rfl⟩
 have zc : ((w3.setCell ⟨r,1,none⟩ (.string (readS a.nd.size o.off o.n a.ps))).setCell ⟨r,0,none⟩ (.int .i64 0)).cell? ⟨r,0,none⟩ = some (.int .i64 0):=hA4.cell 0
 have n6:=hN4.cell 6
 have n4b : (((w3.setCell ⟨r,1,none⟩ (.string (readS a.nd.size o.off o.n a.ps))).setCell ⟨r,0,none⟩ (.int .i64 0)).setCell ⟨g,6,none⟩ (.slice A np q)).cell? ⟨g,4,none⟩ = some (.int .i64 a.nd.size):=(hN4.set_ 6 (.slice A np q)).cell 4
 have nf6:=hN4.frozen 6
 have nf4b : (((w3.setCell ⟨r,1,none⟩ (.string (readS a.nd.size o.off o.n a.ps))).setCell ⟨r,0,none⟩ (.int .i64 0)).setCell ⟨g,6,none⟩ (.slice A np q)).frozen? ⟨g,4,none⟩ = false:=(hN4.set_ 6 (.slice A np q)).frozen 4
 have n6' : ((w3.setCell ⟨r,1,none⟩ (.string (readS a.nd.size o.off o.n a.ps))).setCell ⟨r,0,none⟩ (.int .i64 0)).cell? ⟨g,6,none⟩ = some (.slice A np q):=n6
 have HA6:=Lib.hid hA6
 have HEND:=Lib.hid (fun W7 (h7 : Keep (fun i=>i = r) ((((w3.setCell ⟨r,1,none⟩ (.string (readS a.nd.size o.off o.n a.ps))).setCell ⟨r,0,none⟩ (.int .i64 0)).setCell ⟨g,6,none⟩ (.slice A np q)).setCell ⟨g,4,none⟩ (.int .i64 a.nd.size)) W7)=>data_end (_ino':=0) hA6 hF6 hK6 hrge hi6 h7)
 have ZC:=Lib.hid zc
 have N6:=Lib.hid n6'
 have N4b:=Lib.hid n4b
 have NF6:=Lib.hid nf6
 have NF4b:=Lib.hid nf4b
 clear hA2 hA3 hN2 hN3 hF3 hb3 hk4 hA4 hF4 hK4 hN4 hi6 hF6 fz hlay hA6 hK6 zc n6 n6' n4b nf6 nf4b
 go_upto_region 15 with fail
 generalize ((w3.setCell ⟨r,1,none⟩ (.string (readS a.nd.size o.off o.n a.ps))).setCell ⟨r,0,none⟩ (.int .i64 0)) = w4 at *
 have zc:=ZC.out
 have n6:=N6.out
 have n4b:=N4b.out
 have nf6:=NF6.out
 have nf4b:=NF4b.out
 clear ZC N6 N4b NF6 NF4b x0 f0 f1 f3 p0 p4 p5 p6
 go_upto_region 17 with fail
 generalize ((w4.setCell ⟨g,6,none⟩ (.slice A np q)).setCell ⟨g,4,none⟩ (.int .i64 a.nd.size)) = w6 at *
 clear zc n6 n4b nf6 nf4b
 obtain ⟨z0,z1,z2,z3,z4,z5,z6,z7,z8,z9,z10⟩:=ans_cells HA6.out
 obtain ⟨r0,r1,r2,r3,r4,r5,r6,r7,r8,r9,r10⟩:=ans_frozen HA6.out
 simp only [ansC,ans0,zeroND] at z0 z1 z2 z3 z4 z5 z6 z7 z8 z9 z10
 go_wp2
 refine bodyPost_ret (v:=Ans.val ({ ansC 0 with data:=readS a.nd.size o.off o.n a.ps })) ?_ rfl (HEND.out _ ans_keep)
 exact data_results rfl (ans_set (a':={ ansC 0 with data:=readS a.nd.size o.off o.n a.ps }) HA6.out)
set_option maxRecDepth 100000 in
set_option maxHeartbeats 8000000 in
theorem fw_data_21_ok [Fence] {c : Nat} {w : World} {f b m : Nat} {own : Int → Own} {fs : FS} (h : FlsB c w f b m own fs) (ino : Int) (a : NodeA) (ha : fs.N ino = some a) (hck : a.nd.kind ≠ 2 → checkP a.nd.size a.ps) (o : OpA) (_hz : OpSmall o) (_ho : OpInts o) (hc : c ≤ 274877906944) (hk2 : a.nd.kind ≠ 2) (hko : o.kind = 21) (hC : dataC a o = 0) :
 Calls Tryz.prog 58 #[wkV f,ptrG (own ino).g,o.val] w (DataEnds c w f b m fs ino a o):=by
 have hat:=da_at w f o
 have hF:=h.below hat.bl
 have hN:=hF.node ino a ha
 have hrow:=hN.row
 obtain ⟨A,q,hv,hR,hq,hpb⟩:=hrow
 have hblk:=hN.blk
 rw [hv] at hblk
 have HH:=Lib.hid h
 have few:=hN.few
 unfold wkV ptrG OpA.val OpA.cs
 clear h hN
 have HKO:=Lib.hid hko
 clear hko
 go_enter Tryz.func58,Tryz.ntmps58
 go_upto_region 1 with fail
 generalize (((w.alloc (.cells #[Pa f] 78)).alloc (.cells #[.int .i64 o.kind,.string o.path,.string o.dest,.string o.name,.int .i64 o.off,.int .i64 o.n,.string o.data] 24)).alloc (.cells #[.int .i64 0,.string ⟨#[]⟩,.slice none 0 0,.slice none 0 0,.int .i64 0,.int .i64 0,.int .i64 0,.int .i64 0,.int .i64 0,.int .i64 0,.string ⟨#[]⟩] 36)) = w1 at *
 have hko:=HKO.out
 obtain ⟨r,hr⟩ : ∃ r,r = w.heap.size + 1 + 1:=⟨_,rfl⟩
 rw [← hr] at hat ⊢
 have HR:=Lib.hid hr
 clear hr
 have k0 : w1.cell? ⟨(own ino).g,0,none⟩ = some (.int .i64 a.nd.kind):=hblk.cell 0
 have k4 : w1.cell? ⟨(own ino).g,4,none⟩ = some (.int .i64 a.nd.size):=hblk.cell 4
 have k6 : w1.cell? ⟨(own ino).g,6,none⟩ = some (.slice A a.ps.length q):=hblk.cell 6
 obtain ⟨o0,o1,o2,o3,o4,o5,o6⟩:=oc7 hat.op
 have HAT:=Lib.hid hat
 have HF:=Lib.hid hF
 have HBK:=Lib.hid hblk
 have HRP:=Lib.hid hR
 have HPB:=Lib.hid hpb
 have HVV:=Lib.hid hv
 clear hat hF hblk hR hpb hv
 generalize hps : a.ps.length = np at *
 have HPS:=Lib.hid hps
 clear hps
 generalize hg : (own ino).g = g at *
 have HG:=Lib.hid hg
 clear hg
 have hk2' : (a.nd.kind == 2) = false:=by simpa using hk2
 have hck:=hck hk2
 rw [hko] at o0
 go_upto_region 3 with fail
 go_quiet (fail)
 have hb2 : Below w1.heap.size w1 (w1.drewN nq):=⟨rfl,rfl,rfl,Nat.le_refl _,fun _ _=>rfl⟩
 have p0:=keepc' hb2 o0
 have p4:=keepc' hb2 o4
 have p5:=keepc' hb2 o5
 have p6:=keepc' hb2 o6
 have hA2:=HAT.out.an.drewN nq
 have hN2:=HBK.out.drewN nq
 have HRP2 : Hid (RdP (w1.drewN nq) A np a.ps):=Lib.hid (HRP.out.below hb2)
 have HF2 : Hid (FlsB c (w1.drewN nq) f b m own fs):=Lib.hid (HF.out.below hb2)
 have HB2:=Lib.hid (bl_t HAT.out.bl hb2)
 have HCALL : Hid (Calls Tryz.prog 112 #[.slice A np q,.int .i64 a.nd.size] (w1.drewN nq) fun e w'=>(∃ v,e = .returned (.tuple #[v,.int .i64 0]) ∧ w'.ownsRow (w1.drewN nq).heap.size 86 2 v (rangesS a.nd.size a.ps).length (rgCs (rangesS a.nd.size a.ps))) ∧ Below (w1.drewN nq).heap.size (w1.drewN nq) w'):=Lib.hid ((sp_ranges a.nd.size (HRP2.out) (by omega)).mono fun e w' ⟨he,hb⟩=>⟨by
    
  rcases he with ⟨h,_⟩ | ⟨_,v,h1,h2⟩
  ·exact absurd hck h
  ·exact ⟨v,h1,h2⟩,hb⟩)
 have HW12:=Lib.hid hb2
 generalize w1.drewN nq = w2 at *
 clear HAT HF HRP hb2
 go_wp2_with fail
 refine HCALL.out.mono ?_
 rintro e w3 ⟨⟨v,rfl,hown⟩,hb3⟩
 obtain ⟨A2,q2,rfl⟩:=own_slice hown
 have hA3:=blk_below hA2 hb3
 have hN3:=blk_below hN2 hb3
 have hF3:=HF2.out.below hb3
 have HB3:=Lib.hid (bl_t HB2.out hb3)
 have fz:=hA3.frozen
 have f0:=fz 0
 have f1:=fz 1
 have f3:=fz 3
 have x0 : w3.cell? ⟨r,0,none⟩ = some (.int .i64 0):=hA3.cell 0
 have x1 : w3.cell? ⟨r,3,none⟩ = some (.slice none 0 0):=hA3.cell 3
 have y0 : (w3.setCell ⟨r,3,none⟩ (.slice A2 (rangesS a.nd.size a.ps).length q2)).cell? ⟨r,0,none⟩ = some (.int .i64 0):=(hA3.set_ 3 (.slice A2 (rangesS a.nd.size a.ps).length q2)).cell 0
 have yf : (w3.setCell ⟨r,3,none⟩ (.slice A2 (rangesS a.nd.size a.ps).length q2)).frozen? ⟨r,0,none⟩ = false:=(hA3.set_ 3 (.slice A2 (rangesS a.nd.size a.ps).length q2)).frozen 0
 have hA4 : Blk ((w3.setCell ⟨r,3,none⟩ (.slice A2 (rangesS a.nd.size a.ps).length q2)).setCell ⟨r,0,none⟩ (.int .i64 0)) r 36 (Ans.cs { ansC 0 with ranges:=.slice A2 (rangesS a.nd.size a.ps).length q2 }):=((hA3.set_ 3 (.slice A2 (rangesS a.nd.size a.ps).length q2)).set_ 0 (.int .i64 0))
 have hk4 : Keep (fun i=>i = r) w3 ((w3.setCell ⟨r,3,none⟩ (.slice A2 (rangesS a.nd.size a.ps).length q2)).setCell ⟨r,0,none⟩ (.int .i64 0)):=(keep_set (keep_set (Keep.refl (fun i=>i = r) w3) 3 (.slice A2 (rangesS a.nd.size a.ps).length q2)) 0 (.int .i64 0))
 have hF4:=hF3.ans_ hA3 hk4
 have ho4:=blk_of_own hown hA3 (by decide) hk4
 have hrge : w.heap.size ≤ r:=by rw [HR.out]; omega
 have hK4 : KeepF w ((w3.setCell ⟨r,3,none⟩ (.slice A2 (rangesS a.nd.size a.ps).length q2)).setCell ⟨r,0,none⟩ (.int .i64 0)):=(KeepF.of_below HB3.out).own hrge hk4
 have hN4:=hN3.keep hk4 (Blk.ne_ hN3 hA3 (by decide))
 have hlay:=hF4.lay_ (d:=c + 5000) ino a ha a.ps a.nd.size A q (by omega) (by rw [HPS.out]; omega) (by
  have h:=HRP2.out.below hb3
  have hp : ∀ g' o',A = some ⟨g',o',none⟩ → ∃ cs,Blk w3 g' 111 cs:=fun g' o' e=>by
   obtain ⟨cs,hcs⟩:=HPB.out g' o' e
   exact ⟨cs,blk_below (hcs.keep (Keep.of_below (show Below w1.heap.size w1 w2 from HW12.out) (fun _=>False)) (fun h=>h)) hb3⟩
  rw [HPS.out]
  exact ⟨h.1,fun hn=>by
   obtain ⟨g',o',e,hc⟩:=h.2 hn
   obtain ⟨cs,hcs⟩:=hp g' o' e
   have hne : ¬ g' = r:=Blk.ne_ hcs hA3 (by decide)
   exact ⟨g',o',e,fun j x hx=>⟨hk4.cell (hc j x hx).1 hne,hk4.cell (hc j x hx).2 hne⟩⟩⟩) (by rw [HPS.out]; exact hq) (fun g' o' e=>by
   obtain ⟨cs,hcs⟩:=HPB.out g' o' e
   have h3:=blk_below (hcs.keep (Keep.of_below (show Below w1.heap.size w1 w2 from HW12.out) (fun _=>False)) (fun h=>h)) hb3
   exact ⟨cs,h3.keep hk4 (Blk.ne_ h3 hA3 (by decide))⟩)
 rw [HG.out,HPS.out] at hlay
 have hA6:=KeepF.blk hlay.2 hA4 (by decide) (by decide)
 have hK6:=hK4.trans hlay.2
 have hF6 : ∃ own',FlsB (c + 5000) ((((w3.setCell ⟨r,3,none⟩ (.slice A2 (rangesS a.nd.size a.ps).length q2)).setCell ⟨r,0,none⟩ (.int .i64 0)).setCell ⟨g,6,none⟩ (.slice A np q)).setCell ⟨g,4,none⟩ (.int .i64 a.nd.size)) f b m own' (dataFS fs ino a o):=by
  have e : dataFS fs ino a o = { fs with N:=upd fs.N ino { a with nd:={ a.nd with size:=a.nd.size },ps:=a.ps } }:=by
   unfold dataFS dataNA
   rw [if_pos hC]
   unfold dataPS dataSZ
   rw [if_neg (by omega),if_neg (by omega),if_neg (by omega),if_neg (by omega),if_neg (by omega)]
  rw [e]
  exact ⟨_,hlay.1⟩
 obtain ⟨own',hF6⟩:=hF6
 have ho6:=own_keep ho4 (keep_set (keep_set (Keep.refl (fun i=>i = g) _) 6 (.slice A np q)) 4 (.int .i64 a.nd.size)) (fun k hk' e=>own_blk_ne ho4 hN4 (by decide) (by rw [hk',e]))
 have hi6 : AnsIn ((((w3.setCell ⟨r,3,none⟩ (.slice A2 (rangesS a.nd.size a.ps).length q2)).setCell ⟨r,0,none⟩ (.int .i64 0)).setCell ⟨g,6,none⟩ (.slice A np q)).setCell ⟨g,4,none⟩ (.int .i64 a.nd.size)) w.heap.size ({ ansC 0 with ranges:=.slice A2 (rangesS a.nd.size a.ps).length q2 }) (dataA a o):=by
  have e : dataA a o = { ansP0 0 with ranges:=rangesS a.nd.size a.ps }:=by unfold dataA; rw [if_neg (by omega),if_pos ⟨hko,hC⟩,hC]; rfl
  rw [e]
  exact ⟨rfl,rfl,World.ownsRow_nil _ _ _ _,own_base ho6 (fun k hk=>Nat.le_trans HB2.out.size (ho6.lt k hk).1),rfl,rfl⟩
 have zc : ((w3.setCell ⟨r,3,none⟩ (.slice A2 (rangesS a.nd.size a.ps).length q2)).setCell ⟨r,0,none⟩ (.int .i64 0)).cell? ⟨r,0,none⟩ = some (.int .i64 0):=hA4.cell 0
 have n6:=hN4.cell 6
 have n4b : (((w3.setCell ⟨r,3,none⟩ (.slice A2 (rangesS a.nd.size a.ps).length q2)).setCell ⟨r,0,none⟩ (.int .i64 0)).setCell ⟨g,6,none⟩ (.slice A np q)).cell? ⟨g,4,none⟩ = some (.int .i64 a.nd.size):=(hN4.set_ 6 (.slice A np q)).cell 4
 have nf6:=hN4.frozen 6
 have nf4b : (((w3.setCell ⟨r,3,none⟩ (.slice A2 (rangesS a.nd.size a.ps).length q2)).setCell ⟨r,0,none⟩ (.int .i64 0)).setCell ⟨g,6,none⟩ (.slice A np q)).frozen? ⟨g,4,none⟩ = false:=(hN4.set_ 6 (.slice A np q)).frozen 4
 have n6' : ((w3.setCell ⟨r,3,none⟩ (.slice A2 (rangesS a.nd.size a.ps).length q2)).setCell ⟨r,0,none⟩ (.int .i64 0)).cell? ⟨g,6,none⟩ = some (.slice A np q):=n6
 have HA6:=Lib.hid hA6
 have HEND:=Lib.hid (fun W7 (h7 : Keep (fun i=>i = r) ((((w3.setCell ⟨r,3,none⟩ (.slice A2 (rangesS a.nd.size a.ps).length q2)).setCell ⟨r,0,none⟩ (.int .i64 0)).setCell ⟨g,6,none⟩ (.slice A np q)).setCell ⟨g,4,none⟩ (.int .i64 a.nd.size)) W7)=>data_end (_ino':=0) hA6 hF6 hK6 hrge hi6 h7)
 have ZC:=Lib.hid zc
 have N6:=Lib.hid n6'
 have N4b:=Lib.hid n4b
 have NF6:=Lib.hid nf6
 have NF4b:=Lib.hid nf4b
 clear hA2 hA3 hN2 hN3 hF3 hb3 hk4 hA4 hF4 hK4 hN4 hi6 hF6 fz hlay hA6 hK6 zc n6 n6' n4b nf6 nf4b ho4 ho6 hown
 go_upto_region 15 with fail
 generalize ((w3.setCell ⟨r,3,none⟩ (.slice A2 (rangesS a.nd.size a.ps).length q2)).setCell ⟨r,0,none⟩ (.int .i64 0)) = w4 at *
 have zc:=ZC.out
 have n6:=N6.out
 have n4b:=N4b.out
 have nf6:=NF6.out
 have nf4b:=NF4b.out
 clear ZC N6 N4b NF6 NF4b x0 f0 f1 f3 p0 p4 p5 p6
 go_upto_region 17 with fail
 generalize ((w4.setCell ⟨g,6,none⟩ (.slice A np q)).setCell ⟨g,4,none⟩ (.int .i64 a.nd.size)) = w6 at *
 clear zc n6 n4b nf6 nf4b
 obtain ⟨z0,z1,z2,z3,z4,z5,z6,z7,z8,z9,z10⟩:=ans_cells HA6.out
 obtain ⟨r0,r1,r2,r3,r4,r5,r6,r7,r8,r9,r10⟩:=ans_frozen HA6.out
 simp only [ansC,ans0,zeroND] at z0 z1 z2 z3 z4 z5 z6 z7 z8 z9 z10
 go_wp2
 refine bodyPost_ret (v:=Ans.val ({ ansC 0 with ranges:=.slice A2 (rangesS a.nd.size a.ps).length q2 })) ?_ rfl (HEND.out _ ans_keep)
 exact data_results rfl (ans_set (a':={ ansC 0 with ranges:=.slice A2 (rangesS a.nd.size a.ps).length q2 }) HA6.out)
set_option maxRecDepth 100000 in
set_option maxHeartbeats 8000000 in
theorem fw_data_8_no [Fence] {c : Nat} {w : World} {f b m : Nat} {own : Int → Own} {fs : FS} (h : FlsB c w f b m own fs) (ino : Int) (a : NodeA) (ha : fs.N ino = some a) (hck : a.nd.kind ≠ 2 → checkP a.nd.size a.ps) (o : OpA) (hz : OpSmall o) (_ho : OpInts o) (hc : c ≤ 274877906944) (hk2 : a.nd.kind ≠ 2) (hko : o.kind = 8) (hC : dataC a o ≠ 0) :
 Calls Tryz.prog 58 #[wkV f,ptrG (own ino).g,o.val] w (DataEnds c w f b m fs ino a o):=by
 have hat:=da_at w f o
 have hF:=h.below hat.bl
 have hN:=hF.node ino a ha
 have hrow:=hN.row
 obtain ⟨A,q,hv,hR,hq,hpb⟩:=hrow
 have hblk:=hN.blk
 rw [hv] at hblk
 have HH:=Lib.hid h
 have few:=hN.few
 unfold wkV ptrG OpA.val OpA.cs
 clear h hN
 have HKO:=Lib.hid hko
 clear hko
 go_enter Tryz.func58,Tryz.ntmps58
 go_upto_region 1 with fail
 generalize (((w.alloc (.cells #[Pa f] 78)).alloc (.cells #[.int .i64 o.kind,.string o.path,.string o.dest,.string o.name,.int .i64 o.off,.int .i64 o.n,.string o.data] 24)).alloc (.cells #[.int .i64 0,.string ⟨#[]⟩,.slice none 0 0,.slice none 0 0,.int .i64 0,.int .i64 0,.int .i64 0,.int .i64 0,.int .i64 0,.int .i64 0,.string ⟨#[]⟩] 36)) = w1 at *
 have hko:=HKO.out
 obtain ⟨r,hr⟩ : ∃ r,r = w.heap.size + 1 + 1:=⟨_,rfl⟩
 rw [← hr] at hat ⊢
 have HR:=Lib.hid hr
 clear hr
 have k0 : w1.cell? ⟨(own ino).g,0,none⟩ = some (.int .i64 a.nd.kind):=hblk.cell 0
 have k4 : w1.cell? ⟨(own ino).g,4,none⟩ = some (.int .i64 a.nd.size):=hblk.cell 4
 have k6 : w1.cell? ⟨(own ino).g,6,none⟩ = some (.slice A a.ps.length q):=hblk.cell 6
 obtain ⟨o0,o1,o2,o3,o4,o5,o6⟩:=oc7 hat.op
 have HAT:=Lib.hid hat
 have HF:=Lib.hid hF
 have HBK:=Lib.hid hblk
 have HRP:=Lib.hid hR
 have HPB:=Lib.hid hpb
 have HVV:=Lib.hid hv
 clear hat hF hblk hR hpb hv
 generalize hps : a.ps.length = np at *
 have HPS:=Lib.hid hps
 clear hps
 generalize hg : (own ino).g = g at *
 have HG:=Lib.hid hg
 clear hg
 have hk2' : (a.nd.kind == 2) = false:=by simpa using hk2
 have hck:=hck hk2
 rw [hko] at o0
 go_upto_region 3 with fail
 go_quiet (fail)
 have hb2 : Below w1.heap.size w1 (w1.drewN nq):=⟨rfl,rfl,rfl,Nat.le_refl _,fun _ _=>rfl⟩
 have p0:=keepc' hb2 o0
 have p4:=keepc' hb2 o4
 have p5:=keepc' hb2 o5
 have p6:=keepc' hb2 o6
 have hA2:=HAT.out.an.drewN nq
 have hN2:=HBK.out.drewN nq
 have HRP2 : Hid (RdP (w1.drewN nq) A np a.ps):=Lib.hid (HRP.out.below hb2)
 have HF2 : Hid (FlsB c (w1.drewN nq) f b m own fs):=Lib.hid (HF.out.below hb2)
 have HB2:=Lib.hid (bl_t HAT.out.bl hb2)
 have HCALL : Hid (Calls Tryz.prog 113 #[.slice A np q,.int .i64 a.nd.size,.int .i64 o.off,.string o.data] (w1.drewN nq) fun e w'=>(e = .returned (.tuple #[.slice none 0 0,.int .i64 0,.int .i64 (dataC a o)])) ∧ Below (w1.drewN nq).heap.size (w1.drewN nq) w'):=Lib.hid ((sp_write a.nd.size o.off o.data (HRP2.out) (by omega) (by have:=hz.data; omega)).mono fun e w' ⟨he,hb⟩=>⟨by
  unfold dataC at hC ⊢
  rw [if_neg hk2,if_neg (show ¬ o.kind = 9 by omega),if_neg (show ¬ o.kind = 21 by omega),if_pos hko] at hC ⊢
  rcases he with ⟨h,_⟩ | ⟨_,h1,h⟩ | ⟨_,h0,h1,h⟩ | ⟨_,h0,h1,v,h2,h3⟩
  ·exact absurd hck h
  ·rw [if_pos h1]; exact h
  ·rw [if_neg (by omega),if_pos h1]; exact h
  ·rw [if_neg (by omega),if_neg (by omega)] at hC; exact absurd rfl hC,hb⟩)
 generalize w1.drewN nq = w2 at *
 clear HAT HF HRP hb2
 go_wp2_with fail
 refine HCALL.out.mono ?_
 rintro e w3 ⟨rfl,hb3⟩
 have hA3:=blk_below hA2 hb3
 have hN3:=blk_below hN2 hb3
 have hF3:=HF2.out.below hb3
 have HB3:=Lib.hid (bl_t HB2.out hb3)
 have fz:=hA3.frozen
 have f0:=fz 0
 have f1:=fz 1
 have f3:=fz 3
 have x0 : w3.cell? ⟨r,0,none⟩ = some (.int .i64 0):=hA3.cell 0
 have hA4 : Blk (w3.setCell ⟨r,0,none⟩ (.int .i64 (dataC a o))) r 36 (Ans.cs (ansC (dataC a o))):=(hA3.set_ 0 (.int .i64 (dataC a o)))
 have hk4 : Keep (fun i=>i = r) w3 (w3.setCell ⟨r,0,none⟩ (.int .i64 (dataC a o))):=(keep_set (Keep.refl (fun i=>i = r) w3) 0 (.int .i64 (dataC a o)))
 have hF4:=hF3.ans_ hA3 hk4
 have hrge : w.heap.size ≤ r:=by rw [HR.out]; omega
 have hK4 : KeepF w (w3.setCell ⟨r,0,none⟩ (.int .i64 (dataC a o))):=(KeepF.of_below HB3.out).own hrge hk4
 have hN4:=hN3.keep hk4 (Blk.ne_ hN3 hA3 (by decide))
 have hi4 : AnsIn (w3.setCell ⟨r,0,none⟩ (.int .i64 (dataC a o))) w.heap.size ((ansC (dataC a o))) (dataA a o):=by
  have h:=ansIn0 (w3.setCell ⟨r,0,none⟩ (.int .i64 (dataC a o))) w.heap.size (dataC a o)
  have e : dataA a o = ansP0 (dataC a o):=by unfold dataA; rw [if_neg (fun h=>hC h.2),if_neg (fun h=>hC h.2)]; rfl
  rw [e]
  exact h
 have hfs : dataFS fs ino a o = fs:=by unfold dataFS; rw [if_neg hC]
 have hF5 : FlsB (c + 5000) (w3.setCell ⟨r,0,none⟩ (.int .i64 (dataC a o))) f b m own (dataFS fs ino a o):=by rw [hfs]; exact hF4.more (by omega)
 obtain ⟨z0,z1,z2,z3,z4,z5,z6,z7,z8,z9,z10⟩:=ans_cells hA4
 obtain ⟨r0,r1,r2,r3,r4,r5,r6,r7,r8,r9,r10⟩:=ans_frozen hA4
 simp only [ansC,ans0,zeroND] at z0 z1 z2 z3 z4 z5 z6 z7 z8 z9 z10
 have HA6:=Lib.hid hA4
 have HEND:=Lib.hid (fun W7 (h7 : Keep (fun i=>i = r) (w3.setCell ⟨r,0,none⟩ (.int .i64 (dataC a o))) W7)=>data_end (_ino':=0) hA4 hF5 hK4 hrge hi4 h7)
 have hCb : (dataC a o == 0) = false:=by simpa using hC
 clear hA2 hA3 hN2 hN3 hF3 hb3 hk4 hA4 hF4 hK4 hN4 hi4 hF5 hfs fz
 go_wp2
 refine bodyPost_ret (v:=Ans.val ((ansC (dataC a o)))) ?_ rfl (HEND.out _ ans_keep)
 exact data_results rfl (ans_set (a':=(ansC (dataC a o))) HA6.out)
set_option maxRecDepth 100000 in
set_option maxHeartbeats 8000000 in
theorem fw_data_8_ok [Fence] {c : Nat} {w : World} {f b m : Nat} {own : Int → Own} {fs : FS} (h : FlsB c w f b m own fs) (ino : Int) (a : NodeA) (ha : fs.N ino = some a) (hck : a.nd.kind ≠ 2 → checkP a.nd.size a.ps) (o : OpA) (hz : OpSmall o) (_ho : OpInts o) (hc : c ≤ 274877906944) (hk2 : a.nd.kind ≠ 2) (hko : o.kind = 8) (hC : dataC a o = 0) :
 Calls Tryz.prog 58 #[wkV f,ptrG (own ino).g,o.val] w (DataEnds c w f b m fs ino a o):=by
 have hat:=da_at w f o
 have hF:=h.below hat.bl
 have hN:=hF.node ino a ha
 have hrow:=hN.row
 obtain ⟨A,q,hv,hR,hq,hpb⟩:=hrow
 have hblk:=hN.blk
 rw [hv] at hblk
 have HH:=Lib.hid h
 have few:=hN.few
 unfold wkV ptrG OpA.val OpA.cs
 clear h hN
 have HKO:=Lib.hid hko
 clear hko
 go_enter Tryz.func58,Tryz.ntmps58
 go_upto_region 1 with fail
 generalize (((w.alloc (.cells #[Pa f] 78)).alloc (.cells #[.int .i64 o.kind,.string o.path,.string o.dest,.string o.name,.int .i64 o.off,.int .i64 o.n,.string o.data] 24)).alloc (.cells #[.int .i64 0,.string ⟨#[]⟩,.slice none 0 0,.slice none 0 0,.int .i64 0,.int .i64 0,.int .i64 0,.int .i64 0,.int .i64 0,.int .i64 0,.string ⟨#[]⟩] 36)) = w1 at *
 have hko:=HKO.out
 obtain ⟨r,hr⟩ : ∃ r,r = w.heap.size + 1 + 1:=⟨_,rfl⟩
 rw [← hr] at hat ⊢
 have HR:=Lib.hid hr
 clear hr
 have k0 : w1.cell? ⟨(own ino).g,0,none⟩ = some (.int .i64 a.nd.kind):=hblk.cell 0
 have k4 : w1.cell? ⟨(own ino).g,4,none⟩ = some (.int .i64 a.nd.size):=hblk.cell 4
 have k6 : w1.cell? ⟨(own ino).g,6,none⟩ = some (.slice A a.ps.length q):=hblk.cell 6
 obtain ⟨o0,o1,o2,o3,o4,o5,o6⟩:=oc7 hat.op
 have HAT:=Lib.hid hat
 have HF:=Lib.hid hF
 have HBK:=Lib.hid hblk
 have HRP:=Lib.hid hR
 have HPB:=Lib.hid hpb
 have HVV:=Lib.hid hv
 clear hat hF hblk hR hpb hv
 generalize hps : a.ps.length = np at *
 have HPS:=Lib.hid hps
 clear hps
 generalize hg : (own ino).g = g at *
 have HG:=Lib.hid hg
 clear hg
 have hk2' : (a.nd.kind == 2) = false:=by simpa using hk2
 have hck:=hck hk2
 rw [hko] at o0
 go_upto_region 3 with fail
 go_quiet (fail)
 have hb2 : Below w1.heap.size w1 (w1.drewN nq):=⟨rfl,rfl,rfl,Nat.le_refl _,fun _ _=>rfl⟩
 have p0:=keepc' hb2 o0
 have p4:=keepc' hb2 o4
 have p5:=keepc' hb2 o5
 have p6:=keepc' hb2 o6
 have hA2:=HAT.out.an.drewN nq
 have hN2:=HBK.out.drewN nq
 have HRP2 : Hid (RdP (w1.drewN nq) A np a.ps):=Lib.hid (HRP.out.below hb2)
 have HF2 : Hid (FlsB c (w1.drewN nq) f b m own fs):=Lib.hid (HF.out.below hb2)
 have HB2:=Lib.hid (bl_t HAT.out.bl hb2)
 have HCALL : Hid (Calls Tryz.prog 113 #[.slice A np q,.int .i64 a.nd.size,.int .i64 o.off,.string o.data] (w1.drewN nq) fun e w'=>(∃ v,e = .returned (.tuple #[v,.int .i64 (dataSZ a o),.int .i64 0]) ∧ w'.ownsRow (w1.drewN nq).heap.size 111 2 v (dataPS a o).length (pcCs (dataPS a o))) ∧ Below (w1.drewN nq).heap.size (w1.drewN nq) w'):=Lib.hid ((sp_write a.nd.size o.off o.data (HRP2.out) (by omega) (by have:=hz.data; omega)).mono fun e w' ⟨he,hb⟩=>⟨by
  unfold dataC at hC
  rw [if_neg hk2,if_neg (show ¬ o.kind = 9 by omega),if_neg (show ¬ o.kind = 21 by omega),if_pos hko] at hC
  have hps8 : dataPS a o = writeS o.off o.data a.ps:=by unfold dataPS; rw [if_pos hko]
  have hsz8 : dataSZ a o = sizeW a.nd.size o.off o.data.size:=by unfold dataSZ; rw [if_pos hko]
  rw [hps8,hsz8]
  rcases he with ⟨h,_⟩ | ⟨_,h,_⟩ | ⟨_,h0,h,_⟩ | ⟨_,h0,h1,v,h2,h3⟩
  ·exact absurd hck h
  ·rw [if_pos h] at hC; cases hC
  ·rw [if_neg (by omega),if_pos h] at hC; cases hC
  ·exact ⟨v,h2,h3⟩,hb⟩)
 generalize w1.drewN nq = w2 at *
 clear HAT HF HRP hb2
 go_wp2_with fail
 refine HCALL.out.mono ?_
 rintro e w3 ⟨⟨v,rfl,hown⟩,hb3⟩
 obtain ⟨A2,q2,rfl⟩:=own_slice hown
 have hA3:=blk_below hA2 hb3
 have hN3:=blk_below hN2 hb3
 have hF3:=HF2.out.below hb3
 have HB3:=Lib.hid (bl_t HB2.out hb3)
 have fz:=hA3.frozen
 have f0:=fz 0
 have f1:=fz 1
 have f3:=fz 3
 have x0 : w3.cell? ⟨r,0,none⟩ = some (.int .i64 0):=hA3.cell 0
 have hA4 : Blk (w3.setCell ⟨r,0,none⟩ (.int .i64 0)) r 36 (Ans.cs (ansC 0)):=(hA3.set_ 0 (.int .i64 0))
 have hk4 : Keep (fun i=>i = r) w3 (w3.setCell ⟨r,0,none⟩ (.int .i64 0)):=(keep_set (Keep.refl (fun i=>i = r) w3) 0 (.int .i64 0))
 have hF4:=hF3.ans_ hA3 hk4
 have ho4:=blk_of_own hown hA3 (by decide) hk4
 have hrge : w.heap.size ≤ r:=by rw [HR.out]; omega
 have hK4 : KeepF w (w3.setCell ⟨r,0,none⟩ (.int .i64 0)):=(KeepF.of_below HB3.out).own hrge hk4
 have hN4:=hN3.keep hk4 (Blk.ne_ hN3 hA3 (by decide))
 have hlay:=hF4.lay_ (d:=c + 5000) ino a ha (dataPS a o) (dataSZ a o) A2 q2 (by omega) (by have:=dataPS_len a o hC hk2; rw [HPS.out] at this; omega) (pc_row ho4 rfl) (own_cap ho4) (own_pieces ho4)
 rw [HG.out] at hlay
 have hA6:=KeepF.blk hlay.2 hA4 (by decide) (by decide)
 have hK6:=hK4.trans hlay.2
 have hF6 : ∃ own',FlsB (c + 5000) (((w3.setCell ⟨r,0,none⟩ (.int .i64 0)).setCell ⟨g,6,none⟩ (.slice A2 (dataPS a o).length q2)).setCell ⟨g,4,none⟩ (.int .i64 (dataSZ a o))) f b m own' (dataFS fs ino a o):=by
  have e : dataFS fs ino a o = { fs with N:=upd fs.N ino { a with nd:={ a.nd with size:=(dataSZ a o) },ps:=(dataPS a o) } }:=by
   unfold dataFS dataNA
   rw [if_pos hC]
   try rfl
  rw [e]
  exact ⟨_,hlay.1⟩
 obtain ⟨own',hF6⟩:=hF6
 have hi6 : AnsIn (((w3.setCell ⟨r,0,none⟩ (.int .i64 0)).setCell ⟨g,6,none⟩ (.slice A2 (dataPS a o).length q2)).setCell ⟨g,4,none⟩ (.int .i64 (dataSZ a o))) w.heap.size ((ansC 0)) (dataA a o):=by
  have e : dataA a o = ansP0 0:=by unfold dataA; rw [if_neg (by omega),if_neg (by omega),hC]; rfl
  rw [e]
  exact ansIn0 _ _ 0
 have zc : (w3.setCell ⟨r,0,none⟩ (.int .i64 0)).cell? ⟨r,0,none⟩ = some (.int .i64 0):=hA4.cell 0
 have n6:=hN4.cell 6
 have n4b : ((w3.setCell ⟨r,0,none⟩ (.int .i64 0)).setCell ⟨g,6,none⟩ (.slice A2 (dataPS a o).length q2)).cell? ⟨g,4,none⟩ = some (.int .i64 a.nd.size):=(hN4.set_ 6 (.slice A2 (dataPS a o).length q2)).cell 4
 have nf6:=hN4.frozen 6
 have nf4b : ((w3.setCell ⟨r,0,none⟩ (.int .i64 0)).setCell ⟨g,6,none⟩ (.slice A2 (dataPS a o).length q2)).frozen? ⟨g,4,none⟩ = false:=(hN4.set_ 6 (.slice A2 (dataPS a o).length q2)).frozen 4
 have n6' : (w3.setCell ⟨r,0,none⟩ (.int .i64 0)).cell? ⟨g,6,none⟩ = some (.slice A np q):=n6
 have HA6:=Lib.hid hA6
 have HEND:=Lib.hid (fun W7 (h7 : Keep (fun i=>i = r) (((w3.setCell ⟨r,0,none⟩ (.int .i64 0)).setCell ⟨g,6,none⟩ (.slice A2 (dataPS a o).length q2)).setCell ⟨g,4,none⟩ (.int .i64 (dataSZ a o))) W7)=>data_end (_ino':=0) hA6 hF6 hK6 hrge hi6 h7)
 have ZC:=Lib.hid zc
 have N6:=Lib.hid n6'
 have N4b:=Lib.hid n4b
 have NF6:=Lib.hid nf6
 have NF4b:=Lib.hid nf4b
 clear hA2 hA3 hN2 hN3 hF3 hb3 hk4 hA4 hF4 hK4 hN4 hi6 hF6 fz hlay hA6 hK6 zc n6 n6' n4b nf6 nf4b ho4 hown
 go_upto_region 15 with fail
 generalize (w3.setCell ⟨r,0,none⟩ (.int .i64 0)) = w4 at *
 have zc:=ZC.out
 have n6:=N6.out
 have n4b:=N4b.out
 have nf6:=NF6.out
 have nf4b:=NF4b.out
 clear ZC N6 N4b NF6 NF4b x0 f0 f1 f3 p0 p4 p5 p6
 go_upto_region 17 with fail
 generalize ((w4.setCell ⟨g,6,none⟩ (.slice A2 (dataPS a o).length q2)).setCell ⟨g,4,none⟩ (.int .i64 (dataSZ a o))) = w6 at *
 clear zc n6 n4b nf6 nf4b
 obtain ⟨z0,z1,z2,z3,z4,z5,z6,z7,z8,z9,z10⟩:=ans_cells HA6.out
 obtain ⟨r0,r1,r2,r3,r4,r5,r6,r7,r8,r9,r10⟩:=ans_frozen HA6.out
 simp only [ansC,ans0,zeroND] at z0 z1 z2 z3 z4 z5 z6 z7 z8 z9 z10
 go_wp2
 refine bodyPost_ret (v:=Ans.val ((ansC 0))) ?_ rfl (HEND.out _ ans_keep)
 exact data_results rfl (ans_set (a':=(ansC 0)) HA6.out)
set_option maxRecDepth 100000 in
set_option maxHeartbeats 8000000 in
theorem fw_data_10_no [Fence] {c : Nat} {w : World} {f b m : Nat} {own : Int → Own} {fs : FS} (h : FlsB c w f b m own fs) (ino : Int) (a : NodeA) (ha : fs.N ino = some a) (hck : a.nd.kind ≠ 2 → checkP a.nd.size a.ps) (o : OpA) (_hz : OpSmall o) (_ho : OpInts o) (hc : c ≤ 274877906944) (hk2 : a.nd.kind ≠ 2) (hko : o.kind = 10) (hC : dataC a o ≠ 0) :
 Calls Tryz.prog 58 #[wkV f,ptrG (own ino).g,o.val] w (DataEnds c w f b m fs ino a o):=by
 have hat:=da_at w f o
 have hF:=h.below hat.bl
 have hN:=hF.node ino a ha
 have hrow:=hN.row
 obtain ⟨A,q,hv,hR,hq,hpb⟩:=hrow
 have hblk:=hN.blk
 rw [hv] at hblk
 have HH:=Lib.hid h
 have few:=hN.few
 unfold wkV ptrG OpA.val OpA.cs
 clear h hN
 have HKO:=Lib.hid hko
 clear hko
 go_enter Tryz.func58,Tryz.ntmps58
 go_upto_region 1 with fail
 generalize (((w.alloc (.cells #[Pa f] 78)).alloc (.cells #[.int .i64 o.kind,.string o.path,.string o.dest,.string o.name,.int .i64 o.off,.int .i64 o.n,.string o.data] 24)).alloc (.cells #[.int .i64 0,.string ⟨#[]⟩,.slice none 0 0,.slice none 0 0,.int .i64 0,.int .i64 0,.int .i64 0,.int .i64 0,.int .i64 0,.int .i64 0,.string ⟨#[]⟩] 36)) = w1 at *
 have hko:=HKO.out
 obtain ⟨r,hr⟩ : ∃ r,r = w.heap.size + 1 + 1:=⟨_,rfl⟩
 rw [← hr] at hat ⊢
 have HR:=Lib.hid hr
 clear hr
 have k0 : w1.cell? ⟨(own ino).g,0,none⟩ = some (.int .i64 a.nd.kind):=hblk.cell 0
 have k4 : w1.cell? ⟨(own ino).g,4,none⟩ = some (.int .i64 a.nd.size):=hblk.cell 4
 have k6 : w1.cell? ⟨(own ino).g,6,none⟩ = some (.slice A a.ps.length q):=hblk.cell 6
 obtain ⟨o0,o1,o2,o3,o4,o5,o6⟩:=oc7 hat.op
 have HAT:=Lib.hid hat
 have HF:=Lib.hid hF
 have HBK:=Lib.hid hblk
 have HRP:=Lib.hid hR
 have HPB:=Lib.hid hpb
 have HVV:=Lib.hid hv
 clear hat hF hblk hR hpb hv
 generalize hps : a.ps.length = np at *
 have HPS:=Lib.hid hps
 clear hps
 generalize hg : (own ino).g = g at *
 have HG:=Lib.hid hg
 clear hg
 have hk2' : (a.nd.kind == 2) = false:=by simpa using hk2
 have hck:=hck hk2
 rw [hko] at o0
 go_upto_region 3 with fail
 go_quiet (fail)
 have hb2 : Below w1.heap.size w1 (w1.drewN nq):=⟨rfl,rfl,rfl,Nat.le_refl _,fun _ _=>rfl⟩
 have p0:=keepc' hb2 o0
 have p4:=keepc' hb2 o4
 have p5:=keepc' hb2 o5
 have p6:=keepc' hb2 o6
 have hA2:=HAT.out.an.drewN nq
 have hN2:=HBK.out.drewN nq
 have HRP2 : Hid (RdP (w1.drewN nq) A np a.ps):=Lib.hid (HRP.out.below hb2)
 have HF2 : Hid (FlsB c (w1.drewN nq) f b m own fs):=Lib.hid (HF.out.below hb2)
 have HB2:=Lib.hid (bl_t HAT.out.bl hb2)
 have HCALL : Hid (Calls Tryz.prog 114 #[.slice A np q,.int .i64 a.nd.size,.int .i64 o.n] (w1.drewN nq) fun e w'=>(e = .returned (.tuple #[.slice none 0 0,.int .i64 0,.int .i64 (dataC a o)])) ∧ Below (w1.drewN nq).heap.size (w1.drewN nq) w'):=Lib.hid ((sp_truncate a.nd.size o.n (HRP2.out) (by omega)).mono fun e w' ⟨he,hb⟩=>⟨by
  unfold dataC at hC ⊢
  rw [if_neg hk2,if_neg (show ¬ o.kind = 9 by omega),if_neg (show ¬ o.kind = 21 by omega),if_neg (show ¬ o.kind = 8 by omega),if_pos hko] at hC ⊢
  rcases he with ⟨h,_⟩ | ⟨_,h1,h⟩ | ⟨_,h1,h⟩ | ⟨_,h0,v,h2,h3⟩
  ·exact absurd hck h
  ·rw [if_pos h1]; exact h
  ·rw [if_neg (by omega),if_pos h1]; exact h
  ·rw [if_neg (by omega),if_neg (by omega)] at hC; exact absurd rfl hC,hb⟩)
 generalize w1.drewN nq = w2 at *
 clear HAT HF HRP hb2
 go_wp2_with fail
 refine HCALL.out.mono ?_
 rintro e w3 ⟨rfl,hb3⟩
 have hA3:=blk_below hA2 hb3
 have hN3:=blk_below hN2 hb3
 have hF3:=HF2.out.below hb3
 have HB3:=Lib.hid (bl_t HB2.out hb3)
 have fz:=hA3.frozen
 have f0:=fz 0
 have f1:=fz 1
 have f3:=fz 3
 have x0 : w3.cell? ⟨r,0,none⟩ = some (.int .i64 0):=hA3.cell 0
 have hA4 : Blk (w3.setCell ⟨r,0,none⟩ (.int .i64 (dataC a o))) r 36 (Ans.cs (ansC (dataC a o))):=(hA3.set_ 0 (.int .i64 (dataC a o)))
 have hk4 : Keep (fun i=>i = r) w3 (w3.setCell ⟨r,0,none⟩ (.int .i64 (dataC a o))):=(keep_set (Keep.refl (fun i=>i = r) w3) 0 (.int .i64 (dataC a o)))
 have hF4:=hF3.ans_ hA3 hk4
 have hrge : w.heap.size ≤ r:=by rw [HR.out]; omega
 have hK4 : KeepF w (w3.setCell ⟨r,0,none⟩ (.int .i64 (dataC a o))):=(KeepF.of_below HB3.out).own hrge hk4
 have hN4:=hN3.keep hk4 (Blk.ne_ hN3 hA3 (by decide))
 have hi4 : AnsIn (w3.setCell ⟨r,0,none⟩ (.int .i64 (dataC a o))) w.heap.size ((ansC (dataC a o))) (dataA a o):=by
  have h:=ansIn0 (w3.setCell ⟨r,0,none⟩ (.int .i64 (dataC a o))) w.heap.size (dataC a o)
  have e : dataA a o = ansP0 (dataC a o):=by unfold dataA; rw [if_neg (fun h=>hC h.2),if_neg (fun h=>hC h.2)]; rfl
  rw [e]
  exact h
 have hfs : dataFS fs ino a o = fs:=by unfold dataFS; rw [if_neg hC]
 have hF5 : FlsB (c + 5000) (w3.setCell ⟨r,0,none⟩ (.int .i64 (dataC a o))) f b m own (dataFS fs ino a o):=by rw [hfs]; exact hF4.more (by omega)
 obtain ⟨z0,z1,z2,z3,z4,z5,z6,z7,z8,z9,z10⟩:=ans_cells hA4
 obtain ⟨r0,r1,r2,r3,r4,r5,r6,r7,r8,r9,r10⟩:=ans_frozen hA4
 simp only [ansC,ans0,zeroND] at z0 z1 z2 z3 z4 z5 z6 z7 z8 z9 z10
 have HA6:=Lib.hid hA4
 have HEND:=Lib.hid (fun W7 (h7 : Keep (fun i=>i = r) (w3.setCell ⟨r,0,none⟩ (.int .i64 (dataC a o))) W7)=>data_end (_ino':=0) hA4 hF5 hK4 hrge hi4 h7)
 have hCb : (dataC a o == 0) = false:=by simpa using hC
 clear hA2 hA3 hN2 hN3 hF3 hb3 hk4 hA4 hF4 hK4 hN4 hi4 hF5 hfs fz
 go_wp2
 refine bodyPost_ret (v:=Ans.val ((ansC (dataC a o)))) ?_ rfl (HEND.out _ ans_keep)
 exact data_results rfl (ans_set (a':=(ansC (dataC a o))) HA6.out)
set_option maxRecDepth 100000 in
set_option maxHeartbeats 8000000 in
theorem fw_data_10_ok [Fence] {c : Nat} {w : World} {f b m : Nat} {own : Int → Own} {fs : FS} (h : FlsB c w f b m own fs) (ino : Int) (a : NodeA) (ha : fs.N ino = some a) (hck : a.nd.kind ≠ 2 → checkP a.nd.size a.ps) (o : OpA) (_hz : OpSmall o) (_ho : OpInts o) (hc : c ≤ 274877906944) (hk2 : a.nd.kind ≠ 2) (hko : o.kind = 10) (hC : dataC a o = 0) :
 Calls Tryz.prog 58 #[wkV f,ptrG (own ino).g,o.val] w (DataEnds c w f b m fs ino a o):=by
 have hat:=da_at w f o
 have hF:=h.below hat.bl
 have hN:=hF.node ino a ha
 have hrow:=hN.row
 obtain ⟨A,q,hv,hR,hq,hpb⟩:=hrow
 have hblk:=hN.blk
 rw [hv] at hblk
 have HH:=Lib.hid h
 have few:=hN.few
 unfold wkV ptrG OpA.val OpA.cs
 clear h hN
 have HKO:=Lib.hid hko
 clear hko
 go_enter Tryz.func58,Tryz.ntmps58
 go_upto_region 1 with fail
 generalize (((w.alloc (.cells #[Pa f] 78)).alloc (.cells #[.int .i64 o.kind,.string o.path,.string o.dest,.string o.name,.int .i64 o.off,.int .i64 o.n,.string o.data] 24)).alloc (.cells #[.int .i64 0,.string ⟨#[]⟩,.slice none 0 0,.slice none 0 0,.int .i64 0,.int .i64 0,.int .i64 0,.int .i64 0,.int .i64 0,.int .i64 0,.string ⟨#[]⟩] 36)) = w1 at *
 have hko:=HKO.out
 obtain ⟨r,hr⟩ : ∃ r,r = w.heap.size + 1 + 1:=⟨_,rfl⟩
 rw [← hr] at hat ⊢
 have HR:=Lib.hid hr
 clear hr
 have k0 : w1.cell? ⟨(own ino).g,0,none⟩ = some (.int .i64 a.nd.kind):=hblk.cell 0
 have k4 : w1.cell? ⟨(own ino).g,4,none⟩ = some (.int .i64 a.nd.size):=hblk.cell 4
 have k6 : w1.cell? ⟨(own ino).g,6,none⟩ = some (.slice A a.ps.length q):=hblk.cell 6
 obtain ⟨o0,o1,o2,o3,o4,o5,o6⟩:=oc7 hat.op
 have HAT:=Lib.hid hat
 have HF:=Lib.hid hF
 have HBK:=Lib.hid hblk
 have HRP:=Lib.hid hR
 have HPB:=Lib.hid hpb
 have HVV:=Lib.hid hv
 clear hat hF hblk hR hpb hv
 generalize hps : a.ps.length = np at *
 have HPS:=Lib.hid hps
 clear hps
 generalize hg : (own ino).g = g at *
 have HG:=Lib.hid hg
 clear hg
 have hk2' : (a.nd.kind == 2) = false:=by simpa using hk2
 have hck:=hck hk2
 rw [hko] at o0
 go_upto_region 3 with fail
 go_quiet (fail)
 have hb2 : Below w1.heap.size w1 (w1.drewN nq):=⟨rfl,rfl,rfl,Nat.le_refl _,fun _ _=>rfl⟩
 have p0:=keepc' hb2 o0
 have p4:=keepc' hb2 o4
 have p5:=keepc' hb2 o5
 have p6:=keepc' hb2 o6
 have hA2:=HAT.out.an.drewN nq
 have hN2:=HBK.out.drewN nq
 have HRP2 : Hid (RdP (w1.drewN nq) A np a.ps):=Lib.hid (HRP.out.below hb2)
 have HF2 : Hid (FlsB c (w1.drewN nq) f b m own fs):=Lib.hid (HF.out.below hb2)
 have HB2:=Lib.hid (bl_t HAT.out.bl hb2)
 have HCALL : Hid (Calls Tryz.prog 114 #[.slice A np q,.int .i64 a.nd.size,.int .i64 o.n] (w1.drewN nq) fun e w'=>(∃ v,e = .returned (.tuple #[v,.int .i64 (dataSZ a o),.int .i64 0]) ∧ w'.ownsRow (w1.drewN nq).heap.size 111 2 v (dataPS a o).length (pcCs (dataPS a o))) ∧ Below (w1.drewN nq).heap.size (w1.drewN nq) w'):=Lib.hid ((sp_truncate a.nd.size o.n (HRP2.out) (by omega)).mono fun e w' ⟨he,hb⟩=>⟨by
  unfold dataC at hC
  rw [if_neg hk2,if_neg (show ¬ o.kind = 9 by omega),if_neg (show ¬ o.kind = 21 by omega),if_neg (show ¬ o.kind = 8 by omega),if_pos hko] at hC
  have hps8 : dataPS a o = truncS o.n a.ps:=by unfold dataPS; rw [if_neg (by omega),if_pos hko]
  have hsz8 : dataSZ a o = o.n:=by unfold dataSZ; rw [if_neg (by omega),if_pos hko]
  rw [hps8,hsz8]
  rcases he with ⟨h,_⟩ | ⟨_,h,_⟩ | ⟨_,h,_⟩ | ⟨_,h0,v,h2,h3⟩
  ·exact absurd hck h
  ·rw [if_pos h] at hC; cases hC
  ·rw [if_neg (by omega),if_pos h] at hC; cases hC
  ·exact ⟨v,h2,h3⟩,hb⟩)
 generalize w1.drewN nq = w2 at *
 clear HAT HF HRP hb2
 go_wp2_with fail
 refine HCALL.out.mono ?_
 rintro e w3 ⟨⟨v,rfl,hown⟩,hb3⟩
 obtain ⟨A2,q2,rfl⟩:=own_slice hown
 have hA3:=blk_below hA2 hb3
 have hN3:=blk_below hN2 hb3
 have hF3:=HF2.out.below hb3
 have HB3:=Lib.hid (bl_t HB2.out hb3)
 have fz:=hA3.frozen
 have f0:=fz 0
 have f1:=fz 1
 have f3:=fz 3
 have x0 : w3.cell? ⟨r,0,none⟩ = some (.int .i64 0):=hA3.cell 0
 have hA4 : Blk (w3.setCell ⟨r,0,none⟩ (.int .i64 0)) r 36 (Ans.cs (ansC 0)):=(hA3.set_ 0 (.int .i64 0))
 have hk4 : Keep (fun i=>i = r) w3 (w3.setCell ⟨r,0,none⟩ (.int .i64 0)):=(keep_set (Keep.refl (fun i=>i = r) w3) 0 (.int .i64 0))
 have hF4:=hF3.ans_ hA3 hk4
 have ho4:=blk_of_own hown hA3 (by decide) hk4
 have hrge : w.heap.size ≤ r:=by rw [HR.out]; omega
 have hK4 : KeepF w (w3.setCell ⟨r,0,none⟩ (.int .i64 0)):=(KeepF.of_below HB3.out).own hrge hk4
 have hN4:=hN3.keep hk4 (Blk.ne_ hN3 hA3 (by decide))
 have hlay:=hF4.lay_ (d:=c + 5000) ino a ha (dataPS a o) (dataSZ a o) A2 q2 (by omega) (by have:=dataPS_len a o hC hk2; rw [HPS.out] at this; omega) (pc_row ho4 rfl) (own_cap ho4) (own_pieces ho4)
 rw [HG.out] at hlay
 have hA6:=KeepF.blk hlay.2 hA4 (by decide) (by decide)
 have hK6:=hK4.trans hlay.2
 have hF6 : ∃ own',FlsB (c + 5000) (((w3.setCell ⟨r,0,none⟩ (.int .i64 0)).setCell ⟨g,6,none⟩ (.slice A2 (dataPS a o).length q2)).setCell ⟨g,4,none⟩ (.int .i64 (dataSZ a o))) f b m own' (dataFS fs ino a o):=by
  have e : dataFS fs ino a o = { fs with N:=upd fs.N ino { a with nd:={ a.nd with size:=(dataSZ a o) },ps:=(dataPS a o) } }:=by
   unfold dataFS dataNA
   rw [if_pos hC]
   try rfl
  rw [e]
  exact ⟨_,hlay.1⟩
 obtain ⟨own',hF6⟩:=hF6
 have hi6 : AnsIn (((w3.setCell ⟨r,0,none⟩ (.int .i64 0)).setCell ⟨g,6,none⟩ (.slice A2 (dataPS a o).length q2)).setCell ⟨g,4,none⟩ (.int .i64 (dataSZ a o))) w.heap.size ((ansC 0)) (dataA a o):=by
  have e : dataA a o = ansP0 0:=by unfold dataA; rw [if_neg (by omega),if_neg (by omega),hC]; rfl
  rw [e]
  exact ansIn0 _ _ 0
 have zc : (w3.setCell ⟨r,0,none⟩ (.int .i64 0)).cell? ⟨r,0,none⟩ = some (.int .i64 0):=hA4.cell 0
 have n6:=hN4.cell 6
 have n4b : ((w3.setCell ⟨r,0,none⟩ (.int .i64 0)).setCell ⟨g,6,none⟩ (.slice A2 (dataPS a o).length q2)).cell? ⟨g,4,none⟩ = some (.int .i64 a.nd.size):=(hN4.set_ 6 (.slice A2 (dataPS a o).length q2)).cell 4
 have nf6:=hN4.frozen 6
 have nf4b : ((w3.setCell ⟨r,0,none⟩ (.int .i64 0)).setCell ⟨g,6,none⟩ (.slice A2 (dataPS a o).length q2)).frozen? ⟨g,4,none⟩ = false:=(hN4.set_ 6 (.slice A2 (dataPS a o).length q2)).frozen 4
 have n6' : (w3.setCell ⟨r,0,none⟩ (.int .i64 0)).cell? ⟨g,6,none⟩ = some (.slice A np q):=n6
 have HA6:=Lib.hid hA6
 have HEND:=Lib.hid (fun W7 (h7 : Keep (fun i=>i = r) (((w3.setCell ⟨r,0,none⟩ (.int .i64 0)).setCell ⟨g,6,none⟩ (.slice A2 (dataPS a o).length q2)).setCell ⟨g,4,none⟩ (.int .i64 (dataSZ a o))) W7)=>data_end (_ino':=0) hA6 hF6 hK6 hrge hi6 h7)
 have ZC:=Lib.hid zc
 have N6:=Lib.hid n6'
 have N4b:=Lib.hid n4b
 have NF6:=Lib.hid nf6
 have NF4b:=Lib.hid nf4b
 clear hA2 hA3 hN2 hN3 hF3 hb3 hk4 hA4 hF4 hK4 hN4 hi6 hF6 fz hlay hA6 hK6 zc n6 n6' n4b nf6 nf4b ho4 hown
 go_upto_region 15 with fail
 generalize (w3.setCell ⟨r,0,none⟩ (.int .i64 0)) = w4 at *
 have zc:=ZC.out
 have n6:=N6.out
 have n4b:=N4b.out
 have nf6:=NF6.out
 have nf4b:=NF4b.out
 clear ZC N6 N4b NF6 NF4b x0 f0 f1 f3 p0 p4 p5 p6
 go_upto_region 17 with fail
 generalize ((w4.setCell ⟨g,6,none⟩ (.slice A2 (dataPS a o).length q2)).setCell ⟨g,4,none⟩ (.int .i64 (dataSZ a o))) = w6 at *
 clear zc n6 n4b nf6 nf4b
 obtain ⟨z0,z1,z2,z3,z4,z5,z6,z7,z8,z9,z10⟩:=ans_cells HA6.out
 obtain ⟨r0,r1,r2,r3,r4,r5,r6,r7,r8,r9,r10⟩:=ans_frozen HA6.out
 simp only [ansC,ans0,zeroND] at z0 z1 z2 z3 z4 z5 z6 z7 z8 z9 z10
 go_wp2
 refine bodyPost_ret (v:=Ans.val ((ansC 0))) ?_ rfl (HEND.out _ ans_keep)
 exact data_results rfl (ans_set (a':=(ansC 0)) HA6.out)
set_option maxRecDepth 100000 in
set_option maxHeartbeats 8000000 in
theorem fw_data_11_no [Fence] {c : Nat} {w : World} {f b m : Nat} {own : Int → Own} {fs : FS} (h : FlsB c w f b m own fs) (ino : Int) (a : NodeA) (ha : fs.N ino = some a) (hck : a.nd.kind ≠ 2 → checkP a.nd.size a.ps) (o : OpA) (_hz : OpSmall o) (_ho : OpInts o) (hc : c ≤ 274877906944) (hk2 : a.nd.kind ≠ 2) (hko : o.kind = 11) (hC : dataC a o ≠ 0) :
 Calls Tryz.prog 58 #[wkV f,ptrG (own ino).g,o.val] w (DataEnds c w f b m fs ino a o):=by
 have hat:=da_at w f o
 have hF:=h.below hat.bl
 have hN:=hF.node ino a ha
 have hrow:=hN.row
 obtain ⟨A,q,hv,hR,hq,hpb⟩:=hrow
 have hblk:=hN.blk
 rw [hv] at hblk
 have HH:=Lib.hid h
 have few:=hN.few
 unfold wkV ptrG OpA.val OpA.cs
 clear h hN
 have HKO:=Lib.hid hko
 clear hko
 go_enter Tryz.func58,Tryz.ntmps58
 go_upto_region 1 with fail
 generalize (((w.alloc (.cells #[Pa f] 78)).alloc (.cells #[.int .i64 o.kind,.string o.path,.string o.dest,.string o.name,.int .i64 o.off,.int .i64 o.n,.string o.data] 24)).alloc (.cells #[.int .i64 0,.string ⟨#[]⟩,.slice none 0 0,.slice none 0 0,.int .i64 0,.int .i64 0,.int .i64 0,.int .i64 0,.int .i64 0,.int .i64 0,.string ⟨#[]⟩] 36)) = w1 at *
 have hko:=HKO.out
 obtain ⟨r,hr⟩ : ∃ r,r = w.heap.size + 1 + 1:=⟨_,rfl⟩
 rw [← hr] at hat ⊢
 have HR:=Lib.hid hr
 clear hr
 have k0 : w1.cell? ⟨(own ino).g,0,none⟩ = some (.int .i64 a.nd.kind):=hblk.cell 0
 have k4 : w1.cell? ⟨(own ino).g,4,none⟩ = some (.int .i64 a.nd.size):=hblk.cell 4
 have k6 : w1.cell? ⟨(own ino).g,6,none⟩ = some (.slice A a.ps.length q):=hblk.cell 6
 obtain ⟨o0,o1,o2,o3,o4,o5,o6⟩:=oc7 hat.op
 have HAT:=Lib.hid hat
 have HF:=Lib.hid hF
 have HBK:=Lib.hid hblk
 have HRP:=Lib.hid hR
 have HPB:=Lib.hid hpb
 have HVV:=Lib.hid hv
 clear hat hF hblk hR hpb hv
 generalize hps : a.ps.length = np at *
 have HPS:=Lib.hid hps
 clear hps
 generalize hg : (own ino).g = g at *
 have HG:=Lib.hid hg
 clear hg
 have hk2' : (a.nd.kind == 2) = false:=by simpa using hk2
 have hck:=hck hk2
 rw [hko] at o0
 go_upto_region 3 with fail
 go_quiet (fail)
 have hb2 : Below w1.heap.size w1 (w1.drewN nq):=⟨rfl,rfl,rfl,Nat.le_refl _,fun _ _=>rfl⟩
 have p0:=keepc' hb2 o0
 have p4:=keepc' hb2 o4
 have p5:=keepc' hb2 o5
 have p6:=keepc' hb2 o6
 have hA2:=HAT.out.an.drewN nq
 have hN2:=HBK.out.drewN nq
 have HRP2 : Hid (RdP (w1.drewN nq) A np a.ps):=Lib.hid (HRP.out.below hb2)
 have HF2 : Hid (FlsB c (w1.drewN nq) f b m own fs):=Lib.hid (HF.out.below hb2)
 have HB2:=Lib.hid (bl_t HAT.out.bl hb2)
 have HCALL : Hid (Calls Tryz.prog 115 #[.slice A np q,.int .i64 a.nd.size,.int .i64 o.off,.int .i64 o.n] (w1.drewN nq) fun e w'=>(e = .returned (.tuple #[.slice none 0 0,.int .i64 (dataC a o)])) ∧ Below (w1.drewN nq).heap.size (w1.drewN nq) w'):=Lib.hid ((sp_punch a.nd.size o.off o.n (HRP2.out) (by omega)).mono fun e w' ⟨he,hb⟩=>⟨by
  unfold dataC at hC ⊢
  rw [if_neg hk2,if_neg (show ¬ o.kind = 9 by omega),if_neg (show ¬ o.kind = 21 by omega),if_neg (show ¬ o.kind = 8 by omega),if_neg (show ¬ o.kind = 10 by omega)] at hC ⊢
  rcases he with ⟨h,_⟩ | ⟨_,h1,h⟩ | ⟨_,h0,v,h2,h3⟩
  ·exact absurd hck h
  ·rw [if_pos h1]; exact h
  ·rw [if_neg (by omega)] at hC; exact absurd rfl hC,hb⟩)
 generalize w1.drewN nq = w2 at *
 clear HAT HF HRP hb2
 go_wp2_with fail
 refine HCALL.out.mono ?_
 rintro e w3 ⟨rfl,hb3⟩
 have hA3:=blk_below hA2 hb3
 have hN3:=blk_below hN2 hb3
 have hF3:=HF2.out.below hb3
 have HB3:=Lib.hid (bl_t HB2.out hb3)
 have fz:=hA3.frozen
 have f0:=fz 0
 have f1:=fz 1
 have f3:=fz 3
 have x0 : w3.cell? ⟨r,0,none⟩ = some (.int .i64 0):=hA3.cell 0
 have hA4 : Blk (w3.setCell ⟨r,0,none⟩ (.int .i64 (dataC a o))) r 36 (Ans.cs (ansC (dataC a o))):=(hA3.set_ 0 (.int .i64 (dataC a o)))
 have hk4 : Keep (fun i=>i = r) w3 (w3.setCell ⟨r,0,none⟩ (.int .i64 (dataC a o))):=(keep_set (Keep.refl (fun i=>i = r) w3) 0 (.int .i64 (dataC a o)))
 have hF4:=hF3.ans_ hA3 hk4
 have hrge : w.heap.size ≤ r:=by rw [HR.out]; omega
 have hK4 : KeepF w (w3.setCell ⟨r,0,none⟩ (.int .i64 (dataC a o))):=(KeepF.of_below HB3.out).own hrge hk4
 have hN4:=hN3.keep hk4 (Blk.ne_ hN3 hA3 (by decide))
 have hi4 : AnsIn (w3.setCell ⟨r,0,none⟩ (.int .i64 (dataC a o))) w.heap.size ((ansC (dataC a o))) (dataA a o):=by
  have h:=ansIn0 (w3.setCell ⟨r,0,none⟩ (.int .i64 (dataC a o))) w.heap.size (dataC a o)
  have e : dataA a o = ansP0 (dataC a o):=by unfold dataA; rw [if_neg (fun h=>hC h.2),if_neg (fun h=>hC h.2)]; rfl
  rw [e]
  exact h
 have hfs : dataFS fs ino a o = fs:=by unfold dataFS; rw [if_neg hC]
 have hF5 : FlsB (c + 5000) (w3.setCell ⟨r,0,none⟩ (.int .i64 (dataC a o))) f b m own (dataFS fs ino a o):=by rw [hfs]; exact hF4.more (by omega)
 obtain ⟨z0,z1,z2,z3,z4,z5,z6,z7,z8,z9,z10⟩:=ans_cells hA4
 obtain ⟨r0,r1,r2,r3,r4,r5,r6,r7,r8,r9,r10⟩:=ans_frozen hA4
 simp only [ansC,ans0,zeroND] at z0 z1 z2 z3 z4 z5 z6 z7 z8 z9 z10
 have HA6:=Lib.hid hA4
 have HEND:=Lib.hid (fun W7 (h7 : Keep (fun i=>i = r) (w3.setCell ⟨r,0,none⟩ (.int .i64 (dataC a o))) W7)=>data_end (_ino':=0) hA4 hF5 hK4 hrge hi4 h7)
 have hCb : (dataC a o == 0) = false:=by simpa using hC
 clear hA2 hA3 hN2 hN3 hF3 hb3 hk4 hA4 hF4 hK4 hN4 hi4 hF5 hfs fz
 go_wp2
 refine bodyPost_ret (v:=Ans.val ((ansC (dataC a o)))) ?_ rfl (HEND.out _ ans_keep)
 exact data_results rfl (ans_set (a':=(ansC (dataC a o))) HA6.out)
set_option maxRecDepth 100000 in
set_option maxHeartbeats 8000000 in
theorem fw_data_11_ok [Fence] {c : Nat} {w : World} {f b m : Nat} {own : Int → Own} {fs : FS} (h : FlsB c w f b m own fs) (ino : Int) (a : NodeA) (ha : fs.N ino = some a) (hck : a.nd.kind ≠ 2 → checkP a.nd.size a.ps) (o : OpA) (_hz : OpSmall o) (_ho : OpInts o) (hc : c ≤ 274877906944) (hk2 : a.nd.kind ≠ 2) (hko : o.kind = 11) (hC : dataC a o = 0) :
 Calls Tryz.prog 58 #[wkV f,ptrG (own ino).g,o.val] w (DataEnds c w f b m fs ino a o):=by
 have hat:=da_at w f o
 have hF:=h.below hat.bl
 have hN:=hF.node ino a ha
 have hrow:=hN.row
 obtain ⟨A,q,hv,hR,hq,hpb⟩:=hrow
 have hblk:=hN.blk
 rw [hv] at hblk
 have HH:=Lib.hid h
 have few:=hN.few
 unfold wkV ptrG OpA.val OpA.cs
 clear h hN
 have HKO:=Lib.hid hko
 clear hko
 go_enter Tryz.func58,Tryz.ntmps58
 go_upto_region 1 with fail
 generalize (((w.alloc (.cells #[Pa f] 78)).alloc (.cells #[.int .i64 o.kind,.string o.path,.string o.dest,.string o.name,.int .i64 o.off,.int .i64 o.n,.string o.data] 24)).alloc (.cells #[.int .i64 0,.string ⟨#[]⟩,.slice none 0 0,.slice none 0 0,.int .i64 0,.int .i64 0,.int .i64 0,.int .i64 0,.int .i64 0,.int .i64 0,.string ⟨#[]⟩] 36)) = w1 at *
 have hko:=HKO.out
 obtain ⟨r,hr⟩ : ∃ r,r = w.heap.size + 1 + 1:=⟨_,rfl⟩
 rw [← hr] at hat ⊢
 have HR:=Lib.hid hr
 clear hr
 have k0 : w1.cell? ⟨(own ino).g,0,none⟩ = some (.int .i64 a.nd.kind):=hblk.cell 0
 have k4 : w1.cell? ⟨(own ino).g,4,none⟩ = some (.int .i64 a.nd.size):=hblk.cell 4
 have k6 : w1.cell? ⟨(own ino).g,6,none⟩ = some (.slice A a.ps.length q):=hblk.cell 6
 obtain ⟨o0,o1,o2,o3,o4,o5,o6⟩:=oc7 hat.op
 have HAT:=Lib.hid hat
 have HF:=Lib.hid hF
 have HBK:=Lib.hid hblk
 have HRP:=Lib.hid hR
 have HPB:=Lib.hid hpb
 have HVV:=Lib.hid hv
 clear hat hF hblk hR hpb hv
 generalize hps : a.ps.length = np at *
 have HPS:=Lib.hid hps
 clear hps
 generalize hg : (own ino).g = g at *
 have HG:=Lib.hid hg
 clear hg
 have hk2' : (a.nd.kind == 2) = false:=by simpa using hk2
 have hck:=hck hk2
 rw [hko] at o0
 go_upto_region 3 with fail
 go_quiet (fail)
 have hb2 : Below w1.heap.size w1 (w1.drewN nq):=⟨rfl,rfl,rfl,Nat.le_refl _,fun _ _=>rfl⟩
 have p0:=keepc' hb2 o0
 have p4:=keepc' hb2 o4
 have p5:=keepc' hb2 o5
 have p6:=keepc' hb2 o6
 have hA2:=HAT.out.an.drewN nq
 have hN2:=HBK.out.drewN nq
 have HRP2 : Hid (RdP (w1.drewN nq) A np a.ps):=Lib.hid (HRP.out.below hb2)
 have HF2 : Hid (FlsB c (w1.drewN nq) f b m own fs):=Lib.hid (HF.out.below hb2)
 have HB2:=Lib.hid (bl_t HAT.out.bl hb2)
 have HCALL : Hid (Calls Tryz.prog 115 #[.slice A np q,.int .i64 a.nd.size,.int .i64 o.off,.int .i64 o.n] (w1.drewN nq) fun e w'=>(∃ v,e = .returned (.tuple #[v,.int .i64 0]) ∧ w'.ownsRow (w1.drewN nq).heap.size 111 2 v (dataPS a o).length (pcCs (dataPS a o))) ∧ Below (w1.drewN nq).heap.size (w1.drewN nq) w'):=Lib.hid ((sp_punch a.nd.size o.off o.n (HRP2.out) (by omega)).mono fun e w' ⟨he,hb⟩=>⟨by
  unfold dataC at hC
  rw [if_neg hk2,if_neg (show ¬ o.kind = 9 by omega),if_neg (show ¬ o.kind = 21 by omega),if_neg (show ¬ o.kind = 8 by omega),if_neg (show ¬ o.kind = 10 by omega)] at hC
  have hps8 : dataPS a o = punchS a.nd.size o.off o.n a.ps:=by unfold dataPS; rw [if_neg (by omega),if_neg (by omega),if_pos hko]
  rw [hps8]
  rcases he with ⟨h,_⟩ | ⟨_,h,_⟩ | ⟨_,h0,v,h2,h3⟩
  ·exact absurd hck h
  ·rw [if_pos h] at hC; cases hC
  ·exact ⟨v,h2,h3⟩,hb⟩)
 generalize w1.drewN nq = w2 at *
 clear HAT HF HRP hb2
 go_wp2_with fail
 refine HCALL.out.mono ?_
 rintro e w3 ⟨⟨v,rfl,hown⟩,hb3⟩
 obtain ⟨A2,q2,rfl⟩:=own_slice hown
 have hA3:=blk_below hA2 hb3
 have hN3:=blk_below hN2 hb3
 have hF3:=HF2.out.below hb3
 have HB3:=Lib.hid (bl_t HB2.out hb3)
 have fz:=hA3.frozen
 have f0:=fz 0
 have f1:=fz 1
 have f3:=fz 3
 have x0 : w3.cell? ⟨r,0,none⟩ = some (.int .i64 0):=hA3.cell 0
 have hA4 : Blk (w3.setCell ⟨r,0,none⟩ (.int .i64 0)) r 36 (Ans.cs (ansC 0)):=(hA3.set_ 0 (.int .i64 0))
 have hk4 : Keep (fun i=>i = r) w3 (w3.setCell ⟨r,0,none⟩ (.int .i64 0)):=(keep_set (Keep.refl (fun i=>i = r) w3) 0 (.int .i64 0))
 have hF4:=hF3.ans_ hA3 hk4
 have ho4:=blk_of_own hown hA3 (by decide) hk4
 have hrge : w.heap.size ≤ r:=by rw [HR.out]; omega
 have hK4 : KeepF w (w3.setCell ⟨r,0,none⟩ (.int .i64 0)):=(KeepF.of_below HB3.out).own hrge hk4
 have hN4:=hN3.keep hk4 (Blk.ne_ hN3 hA3 (by decide))
 have hlay:=hF4.lay_ (d:=c + 5000) ino a ha (dataPS a o) a.nd.size A2 q2 (by omega) (by have:=dataPS_len a o hC hk2; rw [HPS.out] at this; omega) (pc_row ho4 rfl) (own_cap ho4) (own_pieces ho4)
 rw [HG.out] at hlay
 have hA6:=KeepF.blk hlay.2 hA4 (by decide) (by decide)
 have hK6:=hK4.trans hlay.2
 have hF6 : ∃ own',FlsB (c + 5000) (((w3.setCell ⟨r,0,none⟩ (.int .i64 0)).setCell ⟨g,6,none⟩ (.slice A2 (dataPS a o).length q2)).setCell ⟨g,4,none⟩ (.int .i64 a.nd.size)) f b m own' (dataFS fs ino a o):=by
  have e : dataFS fs ino a o = { fs with N:=upd fs.N ino { a with nd:={ a.nd with size:=a.nd.size },ps:=(dataPS a o) } }:=by
   unfold dataFS dataNA
   rw [if_pos hC]
   unfold dataSZ
   rw [if_neg (by omega),if_neg (by omega)]
  rw [e]
  exact ⟨_,hlay.1⟩
 obtain ⟨own',hF6⟩:=hF6
 have hi6 : AnsIn (((w3.setCell ⟨r,0,none⟩ (.int .i64 0)).setCell ⟨g,6,none⟩ (.slice A2 (dataPS a o).length q2)).setCell ⟨g,4,none⟩ (.int .i64 a.nd.size)) w.heap.size ((ansC 0)) (dataA a o):=by
  have e : dataA a o = ansP0 0:=by unfold dataA; rw [if_neg (by omega),if_neg (by omega),hC]; rfl
  rw [e]
  exact ansIn0 _ _ 0
 have zc : (w3.setCell ⟨r,0,none⟩ (.int .i64 0)).cell? ⟨r,0,none⟩ = some (.int .i64 0):=hA4.cell 0
 have n6:=hN4.cell 6
 have n4b : ((w3.setCell ⟨r,0,none⟩ (.int .i64 0)).setCell ⟨g,6,none⟩ (.slice A2 (dataPS a o).length q2)).cell? ⟨g,4,none⟩ = some (.int .i64 a.nd.size):=(hN4.set_ 6 (.slice A2 (dataPS a o).length q2)).cell 4
 have nf6:=hN4.frozen 6
 have nf4b : ((w3.setCell ⟨r,0,none⟩ (.int .i64 0)).setCell ⟨g,6,none⟩ (.slice A2 (dataPS a o).length q2)).frozen? ⟨g,4,none⟩ = false:=(hN4.set_ 6 (.slice A2 (dataPS a o).length q2)).frozen 4
 have n6' : (w3.setCell ⟨r,0,none⟩ (.int .i64 0)).cell? ⟨g,6,none⟩ = some (.slice A np q):=n6
 have HA6:=Lib.hid hA6
 have HEND:=Lib.hid (fun W7 (h7 : Keep (fun i=>i = r) (((w3.setCell ⟨r,0,none⟩ (.int .i64 0)).setCell ⟨g,6,none⟩ (.slice A2 (dataPS a o).length q2)).setCell ⟨g,4,none⟩ (.int .i64 a.nd.size)) W7)=>data_end (_ino':=0) hA6 hF6 hK6 hrge hi6 h7)
 have ZC:=Lib.hid zc
 have N6:=Lib.hid n6'
 have N4b:=Lib.hid n4b
 have NF6:=Lib.hid nf6
 have NF4b:=Lib.hid nf4b
 clear hA2 hA3 hN2 hN3 hF3 hb3 hk4 hA4 hF4 hK4 hN4 hi6 hF6 fz hlay hA6 hK6 zc n6 n6' n4b nf6 nf4b ho4 hown
 go_upto_region 15 with fail
 generalize (w3.setCell ⟨r,0,none⟩ (.int .i64 0)) = w4 at *
 have zc:=ZC.out
 have n6:=N6.out
 have n4b:=N4b.out
 have nf6:=NF6.out
 have nf4b:=NF4b.out
 clear ZC N6 N4b NF6 NF4b x0 f0 f1 f3 p0 p4 p5 p6
 go_upto_region 17 with fail
 generalize ((w4.setCell ⟨g,6,none⟩ (.slice A2 (dataPS a o).length q2)).setCell ⟨g,4,none⟩ (.int .i64 a.nd.size)) = w6 at *
 clear zc n6 n4b nf6 nf4b
 obtain ⟨z0,z1,z2,z3,z4,z5,z6,z7,z8,z9,z10⟩:=ans_cells HA6.out
 obtain ⟨r0,r1,r2,r3,r4,r5,r6,r7,r8,r9,r10⟩:=ans_frozen HA6.out
 simp only [ansC,ans0,zeroND] at z0 z1 z2 z3 z4 z5 z6 z7 z8 z9 z10
 go_wp2
 refine bodyPost_ret (v:=Ans.val ((ansC 0))) ?_ rfl (HEND.out _ ans_keep)
 exact data_results rfl (ans_set (a':=(ansC 0)) HA6.out)
theorem fw_data [Fence] {c : Nat} {w : World} {f b m : Nat} {own : Int → Own} {fs : FS} (h : FlsB c w f b m own fs) (ino : Int) (a : NodeA) (ha : fs.N ino = some a) (hck : a.nd.kind ≠ 2 → checkP a.nd.size a.ps) (o : OpA) (hz : OpSmall o) (ho : OpInts o) (hc : c ≤ 274877906944) (hk : o.kind = 8 ∨ o.kind = 9 ∨ o.kind = 10 ∨ o.kind = 11 ∨ o.kind = 21) :
 Calls Tryz.prog 58 #[wkV f,ptrG (own ino).g,o.val] w (DataEnds c w f b m fs ino a o):=by
 by_cases hk2 : a.nd.kind = 2
 ·exact fw_data_dir h ino a ha hck o hz ho hc hk2
 by_cases hC : dataC a o = 0
 ·rcases hk with hk | hk | hk | hk | hk
  ·exact fw_data_8_ok h ino a ha hck o hz ho hc hk2 hk hC
  ·exact fw_data_9_ok h ino a ha hck o hz ho hc hk2 hk hC
  ·exact fw_data_10_ok h ino a ha hck o hz ho hc hk2 hk hC
  ·exact fw_data_11_ok h ino a ha hck o hz ho hc hk2 hk hC
  ·exact fw_data_21_ok h ino a ha hck o hz ho hc hk2 hk hC
 ·rcases hk with hk | hk | hk | hk | hk
  ·exact fw_data_8_no h ino a ha hck o hz ho hc hk2 hk hC
  ·exact fw_data_9_no h ino a ha hck o hz ho hc hk2 hk hC
  ·exact fw_data_10_no h ino a ha hck o hz ho hc hk2 hk hC
  ·exact fw_data_11_no h ino a ha hck o hz ho hc hk2 hk hC
  ·exact absurd (by unfold dataC; rw [if_neg hk2,if_neg (by omega),if_pos hk]) hC
end Go.Proofs.YtpboohfofodeeaaGreatDoor
