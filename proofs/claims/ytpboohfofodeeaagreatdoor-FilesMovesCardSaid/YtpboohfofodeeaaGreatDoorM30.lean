/- files: node (conditions: none; printed by gen_node.py). -/
import Derived.Test.YtpboohfofodeeaaGreatDoorM29
namespace Go.Proofs.YtpboohfofodeeaaGreatDoor
open Go.RowKit Go.Maps
theorem node_results {tm : Array Value} {W : World} {b : Nat} {a : Ans} (h2 : tm.getD 6 undef = .pointer (some ⟨b,0,none⟩)) (hB : Blk W b 36 a.cs) :
 (results Tryz.f59 tm).run Tryz.prog W = .ok a.val W:=by
 obtain ⟨c0,c1,c2,c3,c4,c5,c6,c7,c8,c9,c10⟩:=ans_cells hB
 unfold Ans.val Ans.cs
 clear hB
 rw [Array.getD_eq_getD_getElem?] at h2
 simp [results,Tryz.results59,go_sem, *]
theorem node_end [Fence] {c : Nat} {w W6 W7 : World} {f b m r : Nat} {ino : Int} {own' : Int → Own} {fs fs' : FS} {a : NodeA} {o : OpA} {an : Ans} {p : AnsP} {cs : Array Value} (hA : Blk W6 r 36 cs) (hF : FlsB (c + 5000) W6 f b m own' fs') (hk : KeepF w W6) (hr : w.heap.size ≤ r) (hi : AnsIn W6 w.heap.size an p) (hN : NodeR fs ino a o p fs') (h7 : Keep (fun i=>i = r) W6 W7) :
 NodeEnds c w f b m fs ino a o (.returned an.val) W7:=⟨an,p,fs',own',rfl,hi.keep hA h7,hN,hF.ans_ hA h7,hk.own hr h7⟩
theorem atV_rem (fa : ByteArray → Option ByteArray) (s x : ByteArray) : remK (atV fa) s x = atV (remK fa s) x:=by
 unfold atV remK
 by_cases h : x = s
 ·simp [h]
 ·simp [h]
set_option maxRecDepth 100000 in
set_option maxHeartbeats 8000000 in
theorem fw_node_16 [Fence] {c : Nat} {w : World} {f b m : Nat} {own : Int → Own} {fs : FS} (h : FlsB c w f b m own fs) (ino : Int) (a : NodeA) (ha : fs.N ino = some a) (hi : (Lit.int .i64 ino).wf = true) (o : OpA) (_hz : OpSmall o) (_hc : c ≤ 274877906944) (hko : o.kind = 16) :
 Calls Tryz.prog 59 #[wkV f,.int .i64 ino,o.val] w (NodeEnds c w f b m fs ino a o):=by
 have hat:=da_at w f o
 have hbx:=da_box w f o
 have hF:=h.below hat.bl
 have hN:=hF.node ino a ha
 have hblk:=hN.blk
 unfold wkV OpA.val OpA.cs
 have HKO:=Lib.hid hko
 clear h hko
 go_enter Tryz.func59,Tryz.ntmps59
 go_upto_region 1 with fail
 generalize (((w.alloc (.cells #[Pa f] 78)).alloc (.cells #[.int .i64 o.kind,.string o.path,.string o.dest,.string o.name,.int .i64 o.off,.int .i64 o.n,.string o.data] 24)).alloc (.cells #[.int .i64 0,.string ⟨#[]⟩,.slice none 0 0,.slice none 0 0,.int .i64 0,.int .i64 0,.int .i64 0,.int .i64 0,.int .i64 0,.int .i64 0,.string ⟨#[]⟩] 36)) = w1 at *
 have hko:=HKO.out
 obtain ⟨r,hr⟩ : ∃ r,r = w.heap.size + 1 + 1:=⟨_,rfl⟩
 rw [← hr] at hat ⊢
 have HR:=Lib.hid hr
 clear hr
 have d0 : w1.cell? ⟨w.heap.size,0,none⟩ = some (Pa f):=hbx.cell 0
 have d1 : w1.cell? ⟨f,1,none⟩ = some (.map (some b)):=hF.blk.cell 1
 have hlk : (Instr.lookup 88 (.map (some b)) (.int .i64 ino) false).run Tryz.prog w1 = .ok (.pointer (some ⟨(own ino).g,0,none⟩)) w1:=by
  obtain ⟨_,_,hm⟩:=hF.nodes
  have h:=nodes_look hm ino hi
  rw [ha] at h
  exact h
 obtain ⟨o0,-,-,o3,-,o5,o6⟩:=oc7 hat.op
 have HAT:=Lib.hid hat
 have HF:=Lib.hid hF
 have HND:=Lib.hid hN
 have HBX:=Lib.hid hbx
 have HA1:=Lib.hid hat.an
 have hrge : w.heap.size ≤ r:=by rw [HR.out]; omega
 have HK1 : Hid (KeepF w w1):=Lib.hid (KeepF.of_below hat.bl)
 rw [hko] at o0
 clear hat hF hN hbx
 have hs:=HF.out.cell_ ino a ha 1 (.int .i64 o.n) { a.nd with mode:=o.n } (by simp [nodeC])
 have kc : w1.cell? ⟨(own ino).g,1,none⟩ = some (.int .i64 a.nd.mode):=hblk.cell 1
 have kf:=hblk.frozen 1
 have HA6:=Lib.hid (KeepF.blk hs.2 HA1.out (by decide) (by decide))
 have HEND:=Lib.hid (fun W7 h7=>node_end (c:=c) (W7:=W7) (ino:=ino) (a:=a) (o:=o) (an:=ans0) (p:=ansP0 0) HA6.out (hs.1.more (by omega)) (HK1.out.trans hs.2) hrge (ansIn0 _ _ 0) (nodeR_mode hko) h7)
 clear hs hblk
 go_upto_region 29 with fail
 generalize (w1.setCell ⟨(own ino).g,1,none⟩ (.int .i64 o.n)) = w6 at *
 obtain ⟨z0,z1,z2,z3,z4,z5,z6,z7,z8,z9,z10⟩:=ans_cells HA6.out
 obtain ⟨r0,r1,r2,r3,r4,r5,r6,r7,r8,r9,r10⟩:=ans_frozen HA6.out
 simp only [ans0,zeroND] at z0 z1 z2 z3 z4 z5 z6 z7 z8 z9 z10
 go_wp2
 refine bodyPost_ret (v:=Ans.val (ans0)) ?_ rfl (HEND.out _ ans_keep)
 exact node_results rfl (ans_set (a':=ans0) HA6.out)
set_option maxRecDepth 100000 in
set_option maxHeartbeats 8000000 in
theorem fw_node_17 [Fence] {c : Nat} {w : World} {f b m : Nat} {own : Int → Own} {fs : FS} (h : FlsB c w f b m own fs) (ino : Int) (a : NodeA) (ha : fs.N ino = some a) (hi : (Lit.int .i64 ino).wf = true) (o : OpA) (_hz : OpSmall o) (_hc : c ≤ 274877906944) (hko : o.kind = 17) :
 Calls Tryz.prog 59 #[wkV f,.int .i64 ino,o.val] w (NodeEnds c w f b m fs ino a o):=by
 have hat:=da_at w f o
 have hbx:=da_box w f o
 have hF:=h.below hat.bl
 have hN:=hF.node ino a ha
 have hblk:=hN.blk
 unfold wkV OpA.val OpA.cs
 have HKO:=Lib.hid hko
 clear h hko
 go_enter Tryz.func59,Tryz.ntmps59
 go_upto_region 1 with fail
 generalize (((w.alloc (.cells #[Pa f] 78)).alloc (.cells #[.int .i64 o.kind,.string o.path,.string o.dest,.string o.name,.int .i64 o.off,.int .i64 o.n,.string o.data] 24)).alloc (.cells #[.int .i64 0,.string ⟨#[]⟩,.slice none 0 0,.slice none 0 0,.int .i64 0,.int .i64 0,.int .i64 0,.int .i64 0,.int .i64 0,.int .i64 0,.string ⟨#[]⟩] 36)) = w1 at *
 have hko:=HKO.out
 obtain ⟨r,hr⟩ : ∃ r,r = w.heap.size + 1 + 1:=⟨_,rfl⟩
 rw [← hr] at hat ⊢
 have HR:=Lib.hid hr
 clear hr
 have d0 : w1.cell? ⟨w.heap.size,0,none⟩ = some (Pa f):=hbx.cell 0
 have d1 : w1.cell? ⟨f,1,none⟩ = some (.map (some b)):=hF.blk.cell 1
 have hlk : (Instr.lookup 88 (.map (some b)) (.int .i64 ino) false).run Tryz.prog w1 = .ok (.pointer (some ⟨(own ino).g,0,none⟩)) w1:=by
  obtain ⟨_,_,hm⟩:=hF.nodes
  have h:=nodes_look hm ino hi
  rw [ha] at h
  exact h
 obtain ⟨o0,-,-,o3,-,o5,o6⟩:=oc7 hat.op
 have HAT:=Lib.hid hat
 have HF:=Lib.hid hF
 have HND:=Lib.hid hN
 have HBX:=Lib.hid hbx
 have HA1:=Lib.hid hat.an
 have hrge : w.heap.size ≤ r:=by rw [HR.out]; omega
 have HK1 : Hid (KeepF w w1):=Lib.hid (KeepF.of_below hat.bl)
 rw [hko] at o0
 clear hat hF hN hbx
 have hs:=HF.out.cell_ ino a ha 2 (.int .i64 o.n) { a.nd with time:=o.n } (by simp [nodeC])
 have kc : w1.cell? ⟨(own ino).g,2,none⟩ = some (.int .i64 a.nd.time):=hblk.cell 2
 have kf:=hblk.frozen 2
 have HA6:=Lib.hid (KeepF.blk hs.2 HA1.out (by decide) (by decide))
 have HEND:=Lib.hid (fun W7 h7=>node_end (c:=c) (W7:=W7) (ino:=ino) (a:=a) (o:=o) (an:=ans0) (p:=ansP0 0) HA6.out (hs.1.more (by omega)) (HK1.out.trans hs.2) hrge (ansIn0 _ _ 0) (nodeR_time hko) h7)
 clear hs hblk
 go_upto_region 29 with fail
 generalize (w1.setCell ⟨(own ino).g,2,none⟩ (.int .i64 o.n)) = w6 at *
 obtain ⟨z0,z1,z2,z3,z4,z5,z6,z7,z8,z9,z10⟩:=ans_cells HA6.out
 obtain ⟨r0,r1,r2,r3,r4,r5,r6,r7,r8,r9,r10⟩:=ans_frozen HA6.out
 simp only [ans0,zeroND] at z0 z1 z2 z3 z4 z5 z6 z7 z8 z9 z10
 go_wp2
 refine bodyPost_ret (v:=Ans.val (ans0)) ?_ rfl (HEND.out _ ans_keep)
 exact node_results rfl (ans_set (a':=ans0) HA6.out)
set_option maxRecDepth 100000 in
set_option maxHeartbeats 8000000 in
theorem fw_node_19_no [Fence] {c : Nat} {w : World} {f b m : Nat} {own : Int → Own} {fs : FS} (h : FlsB c w f b m own fs) (ino : Int) (a : NodeA) (ha : fs.N ino = some a) (hi : (Lit.int .i64 ino).wf = true) (o : OpA) (_hz : OpSmall o) (_hc : c ≤ 274877906944) (hko : o.kind = 19) (hkd : a.nd.kind ≠ 3) :
 Calls Tryz.prog 59 #[wkV f,.int .i64 ino,o.val] w (NodeEnds c w f b m fs ino a o):=by
 have hat:=da_at w f o
 have hbx:=da_box w f o
 have hF:=h.below hat.bl
 have hN:=hF.node ino a ha
 have hblk:=hN.blk
 unfold wkV OpA.val OpA.cs
 have HKO:=Lib.hid hko
 clear h hko
 go_enter Tryz.func59,Tryz.ntmps59
 go_upto_region 1 with fail
 generalize (((w.alloc (.cells #[Pa f] 78)).alloc (.cells #[.int .i64 o.kind,.string o.path,.string o.dest,.string o.name,.int .i64 o.off,.int .i64 o.n,.string o.data] 24)).alloc (.cells #[.int .i64 0,.string ⟨#[]⟩,.slice none 0 0,.slice none 0 0,.int .i64 0,.int .i64 0,.int .i64 0,.int .i64 0,.int .i64 0,.int .i64 0,.string ⟨#[]⟩] 36)) = w1 at *
 have hko:=HKO.out
 obtain ⟨r,hr⟩ : ∃ r,r = w.heap.size + 1 + 1:=⟨_,rfl⟩
 rw [← hr] at hat ⊢
 have HR:=Lib.hid hr
 clear hr
 have d0 : w1.cell? ⟨w.heap.size,0,none⟩ = some (Pa f):=hbx.cell 0
 have d1 : w1.cell? ⟨f,1,none⟩ = some (.map (some b)):=hF.blk.cell 1
 have hlk : (Instr.lookup 88 (.map (some b)) (.int .i64 ino) false).run Tryz.prog w1 = .ok (.pointer (some ⟨(own ino).g,0,none⟩)) w1:=by
  obtain ⟨_,_,hm⟩:=hF.nodes
  have h:=nodes_look hm ino hi
  rw [ha] at h
  exact h
 obtain ⟨o0,-,-,o3,-,o5,o6⟩:=oc7 hat.op
 have HAT:=Lib.hid hat
 have HF:=Lib.hid hF
 have HND:=Lib.hid hN
 have HBX:=Lib.hid hbx
 have HA1:=Lib.hid hat.an
 have hrge : w.heap.size ≤ r:=by rw [HR.out]; omega
 have HK1 : Hid (KeepF w w1):=Lib.hid (KeepF.of_below hat.bl)
 rw [hko] at o0
 clear hat hF hN hbx
 have k0 : w1.cell? ⟨(own ino).g,0,none⟩ = some (.int .i64 a.nd.kind):=hblk.cell 0
 have hkd' : (a.nd.kind != 3) = true:=by simpa using hkd
 obtain ⟨z0,z1,z2,z3,z4,z5,z6,z7,z8,z9,z10⟩:=ans_cells HA1.out
 obtain ⟨r0,r1,r2,r3,r4,r5,r6,r7,r8,r9,r10⟩:=ans_frozen HA1.out
 simp only [ans0,zeroND] at z0 z1 z2 z3 z4 z5 z6 z7 z8 z9 z10
 have HEND:=Lib.hid (fun W7 h7=>node_end (c:=c) (W7:=W7) (ino:=ino) (a:=a) (o:=o) (an:=ansC 167) (p:=ansP0 167) HA1.out (HF.out.more (by omega)) HK1.out hrge (ansIn0 _ _ 167) (nodeR_link_no hko hkd) h7)
 clear hblk
 go_wp2
 refine bodyPost_ret (v:=Ans.val (ansC 167)) ?_ rfl (HEND.out _ ans_keep)
 exact node_results rfl (ans_set (a':=ansC 167) HA1.out)
set_option maxRecDepth 100000 in
set_option maxHeartbeats 8000000 in
theorem fw_node_18_no [Fence] {c : Nat} {w : World} {f b m : Nat} {own : Int → Own} {fs : FS} (h : FlsB c w f b m own fs) (ino : Int) (a : NodeA) (ha : fs.N ino = some a) (hi : (Lit.int .i64 ino).wf = true) (o : OpA) (_hz : OpSmall o) (_hc : c ≤ 274877906944) (hko : o.kind = 18) (hkd : a.nd.kind ≠ 2) :
 Calls Tryz.prog 59 #[wkV f,.int .i64 ino,o.val] w (NodeEnds c w f b m fs ino a o):=by
 have hat:=da_at w f o
 have hbx:=da_box w f o
 have hF:=h.below hat.bl
 have hN:=hF.node ino a ha
 have hblk:=hN.blk
 unfold wkV OpA.val OpA.cs
 have HKO:=Lib.hid hko
 clear h hko
 go_enter Tryz.func59,Tryz.ntmps59
 go_upto_region 1 with fail
 generalize (((w.alloc (.cells #[Pa f] 78)).alloc (.cells #[.int .i64 o.kind,.string o.path,.string o.dest,.string o.name,.int .i64 o.off,.int .i64 o.n,.string o.data] 24)).alloc (.cells #[.int .i64 0,.string ⟨#[]⟩,.slice none 0 0,.slice none 0 0,.int .i64 0,.int .i64 0,.int .i64 0,.int .i64 0,.int .i64 0,.int .i64 0,.string ⟨#[]⟩] 36)) = w1 at *
 have hko:=HKO.out
 obtain ⟨r,hr⟩ : ∃ r,r = w.heap.size + 1 + 1:=⟨_,rfl⟩
 rw [← hr] at hat ⊢
 have HR:=Lib.hid hr
 clear hr
 have d0 : w1.cell? ⟨w.heap.size,0,none⟩ = some (Pa f):=hbx.cell 0
 have d1 : w1.cell? ⟨f,1,none⟩ = some (.map (some b)):=hF.blk.cell 1
 have hlk : (Instr.lookup 88 (.map (some b)) (.int .i64 ino) false).run Tryz.prog w1 = .ok (.pointer (some ⟨(own ino).g,0,none⟩)) w1:=by
  obtain ⟨_,_,hm⟩:=hF.nodes
  have h:=nodes_look hm ino hi
  rw [ha] at h
  exact h
 obtain ⟨o0,-,-,o3,-,o5,o6⟩:=oc7 hat.op
 have HAT:=Lib.hid hat
 have HF:=Lib.hid hF
 have HND:=Lib.hid hN
 have HBX:=Lib.hid hbx
 have HA1:=Lib.hid hat.an
 have hrge : w.heap.size ≤ r:=by rw [HR.out]; omega
 have HK1 : Hid (KeepF w w1):=Lib.hid (KeepF.of_below hat.bl)
 rw [hko] at o0
 clear hat hF hN hbx
 have k0 : w1.cell? ⟨(own ino).g,0,none⟩ = some (.int .i64 a.nd.kind):=hblk.cell 0
 have hkd' : (a.nd.kind != 2) = true:=by simpa using hkd
 obtain ⟨z0,z1,z2,z3,z4,z5,z6,z7,z8,z9,z10⟩:=ans_cells HA1.out
 obtain ⟨r0,r1,r2,r3,r4,r5,r6,r7,r8,r9,r10⟩:=ans_frozen HA1.out
 simp only [ans0,zeroND] at z0 z1 z2 z3 z4 z5 z6 z7 z8 z9 z10
 have HEND:=Lib.hid (fun W7 h7=>node_end (c:=c) (W7:=W7) (ino:=ino) (a:=a) (o:=o) (an:=ansC 162) (p:=ansP0 162) HA1.out (HF.out.more (by omega)) HK1.out hrge (ansIn0 _ _ 162) (nodeR_list_no hko hkd) h7)
 clear hblk
 go_wp2
 refine bodyPost_ret (v:=Ans.val (ansC 162)) ?_ rfl (HEND.out _ ans_keep)
 exact node_results rfl (ans_set (a':=ansC 162) HA1.out)
set_option maxRecDepth 100000 in
set_option maxHeartbeats 8000000 in
theorem fw_node_19_ok [Fence] {c : Nat} {w : World} {f b m : Nat} {own : Int → Own} {fs : FS} (h : FlsB c w f b m own fs) (ino : Int) (a : NodeA) (ha : fs.N ino = some a) (hi : (Lit.int .i64 ino).wf = true) (o : OpA) (_hz : OpSmall o) (_hc : c ≤ 274877906944) (hko : o.kind = 19) (hkd : a.nd.kind = 3) :
 Calls Tryz.prog 59 #[wkV f,.int .i64 ino,o.val] w (NodeEnds c w f b m fs ino a o):=by
 have hat:=da_at w f o
 have hbx:=da_box w f o
 have hF:=h.below hat.bl
 have hN:=hF.node ino a ha
 have hblk:=hN.blk
 unfold wkV OpA.val OpA.cs
 have HKO:=Lib.hid hko
 clear h hko
 go_enter Tryz.func59,Tryz.ntmps59
 go_upto_region 1 with fail
 generalize (((w.alloc (.cells #[Pa f] 78)).alloc (.cells #[.int .i64 o.kind,.string o.path,.string o.dest,.string o.name,.int .i64 o.off,.int .i64 o.n,.string o.data] 24)).alloc (.cells #[.int .i64 0,.string ⟨#[]⟩,.slice none 0 0,.slice none 0 0,.int .i64 0,.int .i64 0,.int .i64 0,.int .i64 0,.int .i64 0,.int .i64 0,.string ⟨#[]⟩] 36)) = w1 at *
 have hko:=HKO.out
 obtain ⟨r,hr⟩ : ∃ r,r = w.heap.size + 1 + 1:=⟨_,rfl⟩
 rw [← hr] at hat ⊢
 have HR:=Lib.hid hr
 clear hr
 have d0 : w1.cell? ⟨w.heap.size,0,none⟩ = some (Pa f):=hbx.cell 0
 have d1 : w1.cell? ⟨f,1,none⟩ = some (.map (some b)):=hF.blk.cell 1
 have hlk : (Instr.lookup 88 (.map (some b)) (.int .i64 ino) false).run Tryz.prog w1 = .ok (.pointer (some ⟨(own ino).g,0,none⟩)) w1:=by
  obtain ⟨_,_,hm⟩:=hF.nodes
  have h:=nodes_look hm ino hi
  rw [ha] at h
  exact h
 obtain ⟨o0,-,-,o3,-,o5,o6⟩:=oc7 hat.op
 have HAT:=Lib.hid hat
 have HF:=Lib.hid hF
 have HND:=Lib.hid hN
 have HBX:=Lib.hid hbx
 have HA1:=Lib.hid hat.an
 have hrge : w.heap.size ≤ r:=by rw [HR.out]; omega
 have HK1 : Hid (KeepF w w1):=Lib.hid (KeepF.of_below hat.bl)
 rw [hko] at o0
 clear hat hF hN hbx
 have k0 : w1.cell? ⟨(own ino).g,0,none⟩ = some (.int .i64 a.nd.kind):=hblk.cell 0
 have k5 : w1.cell? ⟨(own ino).g,5,none⟩ = some (.string a.nd.target):=hblk.cell 5
 rw [hkd] at k0
 have x1 : w1.cell? ⟨r,1,none⟩ = some (.string ⟨#[]⟩):=HA1.out.cell 1
 have f1:=HA1.out.frozen 1
 have hk6 : Keep (fun i=>i = r) w1 (w1.setCell ⟨r,1,none⟩ (.string a.nd.target)):=keep_set (Keep.refl _ w1) 1 _
 have hA6 : Blk (w1.setCell ⟨r,1,none⟩ (.string a.nd.target)) r 36 (Ans.cs { ans0 with data:=a.nd.target }):=HA1.out.set_ 1 _
 have HA6:=Lib.hid hA6
 have HEND:=Lib.hid (fun W7 h7=>node_end (c:=c) (W7:=W7) (ino:=ino) (a:=a) (o:=o) (an:={ ans0 with data:=a.nd.target }) (p:={ ansP0 0 with data:=a.nd.target }) hA6 ((HF.out.ans_ HA1.out hk6).more (by omega)) (HK1.out.own hrge hk6) hrge ⟨rfl,rfl,World.ownsRow_nil _ _ _ _,World.ownsRow_nil _ _ _ _,rfl,rfl⟩ (nodeR_link hko hkd) h7)
 clear hblk hk6 hA6
 go_upto_region 29 with fail
 generalize (w1.setCell ⟨r,1,none⟩ (.string a.nd.target)) = w6 at *
 obtain ⟨z0,z1,z2,z3,z4,z5,z6,z7,z8,z9,z10⟩:=ans_cells HA6.out
 obtain ⟨r0,r1,r2,r3,r4,r5,r6,r7,r8,r9,r10⟩:=ans_frozen HA6.out
 simp only [ans0,zeroND] at z0 z1 z2 z3 z4 z5 z6 z7 z8 z9 z10
 go_wp2
 refine bodyPost_ret (v:=Ans.val ({ ans0 with data:=a.nd.target })) ?_ rfl (HEND.out _ ans_keep)
 exact node_results rfl (ans_set (a':={ ans0 with data:=a.nd.target }) HA6.out)
set_option maxRecDepth 100000 in
set_option maxHeartbeats 8000000 in
theorem fw_node_18_ok [Fence] {c : Nat} {w : World} {f b m : Nat} {own : Int → Own} {fs : FS} (h : FlsB c w f b m own fs) (ino : Int) (a : NodeA) (ha : fs.N ino = some a) (hi : (Lit.int .i64 ino).wf = true) (o : OpA) (_hz : OpSmall o) (hc : c ≤ 274877906944) (hko : o.kind = 18) (hkd : a.nd.kind = 2) :
 Calls Tryz.prog 59 #[wkV f,.int .i64 ino,o.val] w (NodeEnds c w f b m fs ino a o):=by
 have hat:=da_at w f o
 have hbx:=da_box w f o
 have hF:=h.below hat.bl
 have hN:=hF.node ino a ha
 have hblk:=hN.blk
 unfold wkV OpA.val OpA.cs
 have HKO:=Lib.hid hko
 clear h hko
 go_enter Tryz.func59,Tryz.ntmps59
 go_upto_region 1 with fail
 generalize (((w.alloc (.cells #[Pa f] 78)).alloc (.cells #[.int .i64 o.kind,.string o.path,.string o.dest,.string o.name,.int .i64 o.off,.int .i64 o.n,.string o.data] 24)).alloc (.cells #[.int .i64 0,.string ⟨#[]⟩,.slice none 0 0,.slice none 0 0,.int .i64 0,.int .i64 0,.int .i64 0,.int .i64 0,.int .i64 0,.int .i64 0,.string ⟨#[]⟩] 36)) = w1 at *
 have hko:=HKO.out
 obtain ⟨r,hr⟩ : ∃ r,r = w.heap.size + 1 + 1:=⟨_,rfl⟩
 rw [← hr] at hat ⊢
 have HR:=Lib.hid hr
 clear hr
 have d0 : w1.cell? ⟨w.heap.size,0,none⟩ = some (Pa f):=hbx.cell 0
 have d1 : w1.cell? ⟨f,1,none⟩ = some (.map (some b)):=hF.blk.cell 1
 have hlk : (Instr.lookup 88 (.map (some b)) (.int .i64 ino) false).run Tryz.prog w1 = .ok (.pointer (some ⟨(own ino).g,0,none⟩)) w1:=by
  obtain ⟨_,_,hm⟩:=hF.nodes
  have h:=nodes_look hm ino hi
  rw [ha] at h
  exact h
 obtain ⟨o0,-,-,o3,-,o5,o6⟩:=oc7 hat.op
 have HAT:=Lib.hid hat
 have HF:=Lib.hid hF
 have HND:=Lib.hid hN
 have HBX:=Lib.hid hbx
 have HA1:=Lib.hid hat.an
 have hrge : w.heap.size ≤ r:=by rw [HR.out]; omega
 have HK1 : Hid (KeepF w w1):=Lib.hid (KeepF.of_below hat.bl)
 rw [hko] at o0
 clear hat hF hN hbx
 have k0 : w1.cell? ⟨(own ino).g,0,none⟩ = some (.int .i64 a.nd.kind):=hblk.cell 0
 rw [hkd] at k0
 have HLS:=Lib.hid (fw_list HF.out ino (by omega))
 unfold wkV at HLS
 have x2 : w1.cell? ⟨r,2,none⟩ = some (.slice none 0 0):=HA1.out.cell 2
 clear hblk
 go_wp2_with fail
 refine HLS.out.mono ?_
 rintro e w2 ⟨⟨A,q,l,rfl,hnm,hown⟩,hb2⟩
 have hA2:=blk_below HA1.out hb2
 have hF2:=HF.out.below hb2
 have x2 : w2.cell? ⟨r,2,none⟩ = some (.slice none 0 0):=hA2.cell 2
 have f2:=hA2.frozen 2
 have hk6 : Keep (fun i=>i = r) w2 (w2.setCell ⟨r,2,none⟩ (.slice A l.length q)):=keep_set (Keep.refl _ w2) 2 _
 have hA6 : Blk (w2.setCell ⟨r,2,none⟩ (.slice A l.length q)) r 36 (Ans.cs { ans0 with names:=.slice A l.length q }):=hA2.set_ 2 _
 have HA6:=Lib.hid hA6
 have ho6:=blk_of_own hown hA2 (by decide) hk6
 have hlt : w.heap.size ≤ w1.heap.size:=HAT.out.bl.size
 have HEND:=Lib.hid (fun W7 h7=>node_end (c:=c) (W7:=W7) (ino:=ino) (a:=a) (o:=o) (an:={ ans0 with names:=.slice A l.length q }) (p:={ ansP0 0 with names:=sortT l }) hA6 ((hF2.ans_ hA2 hk6).more (by omega)) ((HK1.out.below hb2).own hrge hk6) hrge ⟨rfl,rfl,by
  show World.ownsRow _ _ _ _ _ (sortT l).length _
  rw [sortT_length]
  exact own_base ho6 (fun k hk=>Nat.le_trans hlt (ho6.lt k hk).1),World.ownsRow_nil _ _ _ _,rfl,rfl⟩ (nodeR_list hko hkd hnm) h7)
 generalize l.length = nl at *
 clear hk6 hA6 ho6 hown hA2 hF2 hb2
 go_upto_region 29 with fail
 generalize (w2.setCell ⟨r,2,none⟩ (.slice A nl q)) = w6 at *
 obtain ⟨z0,z1,z2,z3,z4,z5,z6,z7,z8,z9,z10⟩:=ans_cells HA6.out
 obtain ⟨r0,r1,r2,r3,r4,r5,r6,r7,r8,r9,r10⟩:=ans_frozen HA6.out
 simp only [ans0,zeroND] at z0 z1 z2 z3 z4 z5 z6 z7 z8 z9 z10
 go_wp2
 refine bodyPost_ret (v:=Ans.val ({ ans0 with names:=.slice A nl q })) ?_ rfl (HEND.out _ ans_keep)
 exact node_results rfl (ans_set (a':={ ans0 with names:=.slice A nl q }) HA6.out)
set_option maxRecDepth 100000 in
set_option maxHeartbeats 8000000 in
theorem fw_node_20 [Fence] {c : Nat} {w : World} {f b m : Nat} {own : Int → Own} {fs : FS} (h : FlsB c w f b m own fs) (ino : Int) (a : NodeA) (ha : fs.N ino = some a) (hi : (Lit.int .i64 ino).wf = true) (o : OpA) (_hz : OpSmall o) (_hc : c ≤ 274877906944) (hko : o.kind = 20) :
 Calls Tryz.prog 59 #[wkV f,.int .i64 ino,o.val] w (NodeEnds c w f b m fs ino a o):=by
 have hat:=da_at w f o
 have hbx:=da_box w f o
 have hF:=h.below hat.bl
 have hN:=hF.node ino a ha
 have hblk:=hN.blk
 unfold wkV OpA.val OpA.cs
 have HKO:=Lib.hid hko
 clear h hko
 go_enter Tryz.func59,Tryz.ntmps59
 go_upto_region 1 with fail
 generalize (((w.alloc (.cells #[Pa f] 78)).alloc (.cells #[.int .i64 o.kind,.string o.path,.string o.dest,.string o.name,.int .i64 o.off,.int .i64 o.n,.string o.data] 24)).alloc (.cells #[.int .i64 0,.string ⟨#[]⟩,.slice none 0 0,.slice none 0 0,.int .i64 0,.int .i64 0,.int .i64 0,.int .i64 0,.int .i64 0,.int .i64 0,.string ⟨#[]⟩] 36)) = w1 at *
 have hko:=HKO.out
 obtain ⟨r,hr⟩ : ∃ r,r = w.heap.size + 1 + 1:=⟨_,rfl⟩
 rw [← hr] at hat ⊢
 have HR:=Lib.hid hr
 clear hr
 have d0 : w1.cell? ⟨w.heap.size,0,none⟩ = some (Pa f):=hbx.cell 0
 have d1 : w1.cell? ⟨f,1,none⟩ = some (.map (some b)):=hF.blk.cell 1
 have hlk : (Instr.lookup 88 (.map (some b)) (.int .i64 ino) false).run Tryz.prog w1 = .ok (.pointer (some ⟨(own ino).g,0,none⟩)) w1:=by
  obtain ⟨_,_,hm⟩:=hF.nodes
  have h:=nodes_look hm ino hi
  rw [ha] at h
  exact h
 obtain ⟨o0,-,-,o3,-,o5,o6⟩:=oc7 hat.op
 have HAT:=Lib.hid hat
 have HF:=Lib.hid hF
 have HND:=Lib.hid hN
 have HBX:=Lib.hid hbx
 have HA1:=Lib.hid hat.an
 have hrge : w.heap.size ≤ r:=by rw [HR.out]; omega
 have HK1 : Hid (KeepF w w1):=Lib.hid (KeepF.of_below hat.bl)
 rw [hko] at o0
 clear hat hF hN hbx
 have k0 : w1.cell? ⟨(own ino).g,0,none⟩ = some (.int .i64 a.nd.kind):=hblk.cell 0
 have k1 : w1.cell? ⟨(own ino).g,1,none⟩ = some (.int .i64 a.nd.mode):=hblk.cell 1
 have k2 : w1.cell? ⟨(own ino).g,2,none⟩ = some (.int .i64 a.nd.time):=hblk.cell 2
 have k3 : w1.cell? ⟨(own ino).g,3,none⟩ = some (.int .i64 a.nd.links):=hblk.cell 3
 have k4 : w1.cell? ⟨(own ino).g,4,none⟩ = some (.int .i64 a.nd.size):=hblk.cell 4
 have k5 : w1.cell? ⟨(own ino).g,5,none⟩ = some (.string a.nd.target):=hblk.cell 5
 have hkk : Keep (fun i=>i = r) w1 (w1.setCell ⟨r,4,none⟩ (.int .i64 ino)):=keep_set (Keep.refl _ w1) 4 _
 have hnb : ¬ (own ino).g = r:=Blk.ne_ hblk HA1.out (by decide)
 have l4 : (w1.setCell ⟨r,4,none⟩ (.int .i64 ino)).cell? ⟨(own ino).g,4,none⟩ = some (.int .i64 a.nd.size):=hkk.cell k4 hnb
 have l5 : (w1.setCell ⟨r,4,none⟩ (.int .i64 ino)).cell? ⟨(own ino).g,5,none⟩ = some (.string a.nd.target):=hkk.cell k5 hnb
 obtain ⟨z0,z1,z2,z3,z4,z5,z6,z7,z8,z9,z10⟩:=ans_cells HA1.out
 obtain ⟨r0,r1,r2,r3,r4,r5,r6,r7,r8,r9,r10⟩:=ans_frozen HA1.out
 simp only [ans0,zeroND] at z0 z1 z2 z3 z4 z5 z6 z7 z8 z9 z10
 have hk6 : Keep (fun i=>i = r) w1 (((((((w1.setCell ⟨r,4,none⟩ (.int .i64 ino)).setCell ⟨r,5,none⟩ (.int .i64 a.nd.kind)).setCell ⟨r,6,none⟩ (.int .i64 a.nd.mode)).setCell ⟨r,7,none⟩ (.int .i64 a.nd.time)).setCell ⟨r,8,none⟩ (.int .i64 a.nd.links)).setCell ⟨r,9,none⟩ (.int .i64 a.nd.size)).setCell ⟨r,10,none⟩ (.string a.nd.target)).drew:=(keep_set (keep_set (keep_set (keep_set (keep_set (keep_set (keep_set (Keep.refl _ w1) 4 _) 5 _) 6 _) 7 _) 8 _) 9 _) 10 _).drew
 have hA6 : Blk (((((((w1.setCell ⟨r,4,none⟩ (.int .i64 ino)).setCell ⟨r,5,none⟩ (.int .i64 a.nd.kind)).setCell ⟨r,6,none⟩ (.int .i64 a.nd.mode)).setCell ⟨r,7,none⟩ (.int .i64 a.nd.time)).setCell ⟨r,8,none⟩ (.int .i64 a.nd.links)).setCell ⟨r,9,none⟩ (.int .i64 a.nd.size)).setCell ⟨r,10,none⟩ (.string a.nd.target)).drew r 36 (Ans.cs { ans0 with ino:=ino,nd:=a.nd }):=(((((((HA1.out.set_ 4 _).set_ 5 _).set_ 6 _).set_ 7 _).set_ 8 _).set_ 9 _).set_ 10 _).drew
 have HA6:=Lib.hid hA6
 have HEND:=Lib.hid (fun W7 h7=>node_end (c:=c) (W7:=W7) (ino:=ino) (a:=a) (o:=o) (an:={ ans0 with ino:=ino,nd:=a.nd }) (p:={ ansP0 0 with ino:=ino,nd:=a.nd }) hA6 ((HF.out.ans_ HA1.out hk6).more (by omega)) (HK1.out.own hrge hk6) hrge ⟨rfl,rfl,World.ownsRow_nil _ _ _ _,World.ownsRow_nil _ _ _ _,rfl,rfl⟩ (nodeR_stat hko) h7)
 clear hblk hkk hnb hk6 hA6
 go_upto_region 28 with fail
 go_region
 clear z0 z1 z2 z3 z4 z5 z6 z7 z8 z9 z10 r0 r1 r2 r3 r4 r5 r6 r7 r8 r9 r10 k0 k1 k2 k3 k4 k5 l4 l5
 go_upto_region 29 with fail
 generalize (((((((w1.setCell ⟨r,4,none⟩ (.int .i64 ino)).setCell ⟨r,5,none⟩ (.int .i64 a.nd.kind)).setCell ⟨r,6,none⟩ (.int .i64 a.nd.mode)).setCell ⟨r,7,none⟩ (.int .i64 a.nd.time)).setCell ⟨r,8,none⟩ (.int .i64 a.nd.links)).setCell ⟨r,9,none⟩ (.int .i64 a.nd.size)).setCell ⟨r,10,none⟩ (.string a.nd.target)).drew = w6 at *
 obtain ⟨z0,z1,z2,z3,z4,z5,z6,z7,z8,z9,z10⟩:=ans_cells HA6.out
 obtain ⟨r0,r1,r2,r3,r4,r5,r6,r7,r8,r9,r10⟩:=ans_frozen HA6.out
 simp only [ans0,zeroND] at z0 z1 z2 z3 z4 z5 z6 z7 z8 z9 z10
 go_wp2
 refine bodyPost_ret (v:=Ans.val ({ ans0 with ino:=ino,nd:=a.nd })) ?_ rfl (HEND.out _ ans_keep)
 exact node_results rfl (ans_set (a':={ ans0 with ino:=ino,nd:=a.nd }) HA6.out)
set_option maxRecDepth 100000 in
set_option maxHeartbeats 8000000 in
theorem fw_node_13_no [Fence] {c : Nat} {w : World} {f b m : Nat} {own : Int → Own} {fs : FS} (h : FlsB c w f b m own fs) (ino : Int) (a : NodeA) (ha : fs.N ino = some a) (hi : (Lit.int .i64 ino).wf = true) (o : OpA) (hz : OpSmall o) (_hc : c ≤ 274877906944) (hko : o.kind = 13) (hat0 : a.at_ o.name = none) :
 Calls Tryz.prog 59 #[wkV f,.int .i64 ino,o.val] w (NodeEnds c w f b m fs ino a o):=by
 have hat:=da_at w f o
 have hbx:=da_box w f o
 have hF:=h.below hat.bl
 have hN:=hF.node ino a ha
 have hblk:=hN.blk
 unfold wkV OpA.val OpA.cs
 have HKO:=Lib.hid hko
 clear h hko
 go_enter Tryz.func59,Tryz.ntmps59
 go_upto_region 1 with fail
 generalize (((w.alloc (.cells #[Pa f] 78)).alloc (.cells #[.int .i64 o.kind,.string o.path,.string o.dest,.string o.name,.int .i64 o.off,.int .i64 o.n,.string o.data] 24)).alloc (.cells #[.int .i64 0,.string ⟨#[]⟩,.slice none 0 0,.slice none 0 0,.int .i64 0,.int .i64 0,.int .i64 0,.int .i64 0,.int .i64 0,.int .i64 0,.string ⟨#[]⟩] 36)) = w1 at *
 have hko:=HKO.out
 obtain ⟨r,hr⟩ : ∃ r,r = w.heap.size + 1 + 1:=⟨_,rfl⟩
 rw [← hr] at hat ⊢
 have HR:=Lib.hid hr
 clear hr
 have d0 : w1.cell? ⟨w.heap.size,0,none⟩ = some (Pa f):=hbx.cell 0
 have d1 : w1.cell? ⟨f,1,none⟩ = some (.map (some b)):=hF.blk.cell 1
 have hlk : (Instr.lookup 88 (.map (some b)) (.int .i64 ino) false).run Tryz.prog w1 = .ok (.pointer (some ⟨(own ino).g,0,none⟩)) w1:=by
  obtain ⟨_,_,hm⟩:=hF.nodes
  have h:=nodes_look hm ino hi
  rw [ha] at h
  exact h
 obtain ⟨o0,-,-,o3,-,o5,o6⟩:=oc7 hat.op
 have HAT:=Lib.hid hat
 have HF:=Lib.hid hF
 have HND:=Lib.hid hN
 have HBX:=Lib.hid hbx
 have HA1:=Lib.hid hat.an
 have hrge : w.heap.size ≤ r:=by rw [HR.out]; omega
 have HK1 : Hid (KeepF w w1):=Lib.hid (KeepF.of_below hat.bl)
 rw [hko] at o0
 clear hat hF hN hbx
 have k7 : w1.cell? ⟨(own ino).g,7,none⟩ = some (.map (some (own ino).ab)):=hblk.cell 7
 obtain ⟨an,hanc,hmk⟩:=HND.out.att
 have hnm : o.name.size ≤ maxLen:=by have:=hz.name; unfold maxLen; omega
 have hlka : ∀ n,(Instr.lookup 133 (.map (some (own ino).ab)) (.string o.name) true).run Tryz.prog (w1.drewN n) = .ok (.tuple #[((a.at_ o.name).map Value.string).getD (.string ⟨#[]⟩),.bool ((a.at_ o.name).map Value.string).isSome]) (w1.drewN n):=fun n=>by
  have hz : (zeroValue 9).run Tryz.prog (w1.drewN n) = .ok (.string ⟨#[]⟩) (w1.drewN n):=by simp [go_sem]
  exact (hmk.drewN n).look (encS_string Tryz.underlying9) Tryz.underlying133 hz true o.name hnm
 rw [hat0] at hlka
 simp only [Option.map_none,Option.getD_none,Option.isSome_none] at hlka
 go_upto_region 7 with fail
 go_quiet (fail)
 have hb2 : Below w1.heap.size w1 (w1.drewN nq):=⟨rfl,rfl,rfl,Nat.le_refl _,fun _ _=>rfl⟩
 have hA2:=HA1.out.drewN nq
 have hF2:=HF.out.below hb2
 have hK2:=HK1.out.below hb2
 have hblk2:=blk_below hblk hb2
 have p0:=keepc' hb2 o0
 have p3:=keepc' hb2 o3
 have p7:=keepc' hb2 k7
 have hmk2:=hmk.drewN nq
 generalize w1.drewN nq = w2 at *
 clear hb2 hblk hlka o0 o3 o5 o6 d0 d1 hlk k7
 have x1 : w2.cell? ⟨r,0,none⟩ = some (.int .i64 0):=hA2.cell 0
 have f1:=hA2.frozen 0
 have hk6 : Keep (fun i=>i = r) w2 (w2.setCell ⟨r,0,none⟩ (.int .i64 168)):=keep_set (Keep.refl _ w2) 0 _
 have hA6 : Blk (w2.setCell ⟨r,0,none⟩ (.int .i64 168)) r 36 (Ans.cs (ansC 168)):=hA2.set_ 0 _
 have HA6:=Lib.hid hA6
 have HEND:=Lib.hid (fun W7 h7=>node_end (c:=c) (W7:=W7) (ino:=ino) (a:=a) (o:=o) (an:=(ansC 168)) (p:=(ansP0 168)) hA6 ((hF2.ans_ hA2 hk6).more (by omega)) (hK2.own hrge hk6) hrge ⟨rfl,rfl,World.ownsRow_nil _ _ _ _,World.ownsRow_nil _ _ _ _,rfl,rfl⟩ (nodeR_get_no hko hat0) h7)
 clear hk6 hA6 hA2 hF2 hK2 hblk2 hmk hmk2
 go_upto_region 29 with fail
 generalize (w2.setCell ⟨r,0,none⟩ (.int .i64 168)) = w6 at *
 obtain ⟨z0,z1,z2,z3,z4,z5,z6,z7,z8,z9,z10⟩:=ans_cells HA6.out
 obtain ⟨r0,r1,r2,r3,r4,r5,r6,r7,r8,r9,r10⟩:=ans_frozen HA6.out
 simp only [ansC,ans0,zeroND] at z0 z1 z2 z3 z4 z5 z6 z7 z8 z9 z10
 go_wp2
 refine bodyPost_ret (v:=Ans.val ((ansC 168))) ?_ rfl (HEND.out _ ans_keep)
 exact node_results rfl (ans_set (a':=(ansC 168)) HA6.out)
set_option maxRecDepth 100000 in
set_option maxHeartbeats 8000000 in
theorem fw_node_14_no [Fence] {c : Nat} {w : World} {f b m : Nat} {own : Int → Own} {fs : FS} (h : FlsB c w f b m own fs) (ino : Int) (a : NodeA) (ha : fs.N ino = some a) (hi : (Lit.int .i64 ino).wf = true) (o : OpA) (hz : OpSmall o) (_hc : c ≤ 274877906944) (hko : o.kind = 14) (hat0 : a.at_ o.name = none) :
 Calls Tryz.prog 59 #[wkV f,.int .i64 ino,o.val] w (NodeEnds c w f b m fs ino a o):=by
 have hat:=da_at w f o
 have hbx:=da_box w f o
 have hF:=h.below hat.bl
 have hN:=hF.node ino a ha
 have hblk:=hN.blk
 unfold wkV OpA.val OpA.cs
 have HKO:=Lib.hid hko
 clear h hko
 go_enter Tryz.func59,Tryz.ntmps59
 go_upto_region 1 with fail
 generalize (((w.alloc (.cells #[Pa f] 78)).alloc (.cells #[.int .i64 o.kind,.string o.path,.string o.dest,.string o.name,.int .i64 o.off,.int .i64 o.n,.string o.data] 24)).alloc (.cells #[.int .i64 0,.string ⟨#[]⟩,.slice none 0 0,.slice none 0 0,.int .i64 0,.int .i64 0,.int .i64 0,.int .i64 0,.int .i64 0,.int .i64 0,.string ⟨#[]⟩] 36)) = w1 at *
 have hko:=HKO.out
 obtain ⟨r,hr⟩ : ∃ r,r = w.heap.size + 1 + 1:=⟨_,rfl⟩
 rw [← hr] at hat ⊢
 have HR:=Lib.hid hr
 clear hr
 have d0 : w1.cell? ⟨w.heap.size,0,none⟩ = some (Pa f):=hbx.cell 0
 have d1 : w1.cell? ⟨f,1,none⟩ = some (.map (some b)):=hF.blk.cell 1
 have hlk : (Instr.lookup 88 (.map (some b)) (.int .i64 ino) false).run Tryz.prog w1 = .ok (.pointer (some ⟨(own ino).g,0,none⟩)) w1:=by
  obtain ⟨_,_,hm⟩:=hF.nodes
  have h:=nodes_look hm ino hi
  rw [ha] at h
  exact h
 obtain ⟨o0,-,-,o3,-,o5,o6⟩:=oc7 hat.op
 have HAT:=Lib.hid hat
 have HF:=Lib.hid hF
 have HND:=Lib.hid hN
 have HBX:=Lib.hid hbx
 have HA1:=Lib.hid hat.an
 have hrge : w.heap.size ≤ r:=by rw [HR.out]; omega
 have HK1 : Hid (KeepF w w1):=Lib.hid (KeepF.of_below hat.bl)
 rw [hko] at o0
 clear hat hF hN hbx
 have k7 : w1.cell? ⟨(own ino).g,7,none⟩ = some (.map (some (own ino).ab)):=hblk.cell 7
 obtain ⟨an,hanc,hmk⟩:=HND.out.att
 have hnm : o.name.size ≤ maxLen:=by have:=hz.name; unfold maxLen; omega
 have hlka : ∀ n,(Instr.lookup 133 (.map (some (own ino).ab)) (.string o.name) true).run Tryz.prog (w1.drewN n) = .ok (.tuple #[((a.at_ o.name).map Value.string).getD (.string ⟨#[]⟩),.bool ((a.at_ o.name).map Value.string).isSome]) (w1.drewN n):=fun n=>by
  have hz : (zeroValue 9).run Tryz.prog (w1.drewN n) = .ok (.string ⟨#[]⟩) (w1.drewN n):=by simp [go_sem]
  exact (hmk.drewN n).look (encS_string Tryz.underlying9) Tryz.underlying133 hz true o.name hnm
 rw [hat0] at hlka
 simp only [Option.map_none,Option.getD_none,Option.isSome_none] at hlka
 go_upto_region 7 with fail
 go_quiet (fail)
 have hb2 : Below w1.heap.size w1 (w1.drewN nq):=⟨rfl,rfl,rfl,Nat.le_refl _,fun _ _=>rfl⟩
 have hA2:=HA1.out.drewN nq
 have hF2:=HF.out.below hb2
 have hK2:=HK1.out.below hb2
 have hblk2:=blk_below hblk hb2
 have p0:=keepc' hb2 o0
 have p3:=keepc' hb2 o3
 have p7:=keepc' hb2 k7
 have hmk2:=hmk.drewN nq
 generalize w1.drewN nq = w2 at *
 clear hb2 hblk hlka o0 o3 o5 o6 d0 d1 hlk k7
 have x1 : w2.cell? ⟨r,0,none⟩ = some (.int .i64 0):=hA2.cell 0
 have f1:=hA2.frozen 0
 have hk6 : Keep (fun i=>i = r) w2 (w2.setCell ⟨r,0,none⟩ (.int .i64 168)):=keep_set (Keep.refl _ w2) 0 _
 have hA6 : Blk (w2.setCell ⟨r,0,none⟩ (.int .i64 168)) r 36 (Ans.cs (ansC 168)):=hA2.set_ 0 _
 have HA6:=Lib.hid hA6
 have HEND:=Lib.hid (fun W7 h7=>node_end (c:=c) (W7:=W7) (ino:=ino) (a:=a) (o:=o) (an:=(ansC 168)) (p:=(ansP0 168)) hA6 ((hF2.ans_ hA2 hk6).more (by omega)) (hK2.own hrge hk6) hrge ⟨rfl,rfl,World.ownsRow_nil _ _ _ _,World.ownsRow_nil _ _ _ _,rfl,rfl⟩ (nodeR_del_no hko hat0) h7)
 clear hk6 hA6 hA2 hF2 hK2 hblk2 hmk hmk2
 go_upto_region 29 with fail
 generalize (w2.setCell ⟨r,0,none⟩ (.int .i64 168)) = w6 at *
 obtain ⟨z0,z1,z2,z3,z4,z5,z6,z7,z8,z9,z10⟩:=ans_cells HA6.out
 obtain ⟨r0,r1,r2,r3,r4,r5,r6,r7,r8,r9,r10⟩:=ans_frozen HA6.out
 simp only [ansC,ans0,zeroND] at z0 z1 z2 z3 z4 z5 z6 z7 z8 z9 z10
 go_wp2
 refine bodyPost_ret (v:=Ans.val ((ansC 168))) ?_ rfl (HEND.out _ ans_keep)
 exact node_results rfl (ans_set (a':=(ansC 168)) HA6.out)
set_option maxRecDepth 100000 in
set_option maxHeartbeats 8000000 in
theorem fw_node_13_ok [Fence] {c : Nat} {w : World} {f b m : Nat} {own : Int → Own} {fs : FS} (h : FlsB c w f b m own fs) (ino : Int) (a : NodeA) (ha : fs.N ino = some a) (hi : (Lit.int .i64 ino).wf = true) (o : OpA) (hz : OpSmall o) (_hc : c ≤ 274877906944) (hko : o.kind = 13) {v : ByteArray} (hat0 : a.at_ o.name = some v) :
 Calls Tryz.prog 59 #[wkV f,.int .i64 ino,o.val] w (NodeEnds c w f b m fs ino a o):=by
 have hat:=da_at w f o
 have hbx:=da_box w f o
 have hF:=h.below hat.bl
 have hN:=hF.node ino a ha
 have hblk:=hN.blk
 unfold wkV OpA.val OpA.cs
 have HKO:=Lib.hid hko
 clear h hko
 go_enter Tryz.func59,Tryz.ntmps59
 go_upto_region 1 with fail
 generalize (((w.alloc (.cells #[Pa f] 78)).alloc (.cells #[.int .i64 o.kind,.string o.path,.string o.dest,.string o.name,.int .i64 o.off,.int .i64 o.n,.string o.data] 24)).alloc (.cells #[.int .i64 0,.string ⟨#[]⟩,.slice none 0 0,.slice none 0 0,.int .i64 0,.int .i64 0,.int .i64 0,.int .i64 0,.int .i64 0,.int .i64 0,.string ⟨#[]⟩] 36)) = w1 at *
 have hko:=HKO.out
 obtain ⟨r,hr⟩ : ∃ r,r = w.heap.size + 1 + 1:=⟨_,rfl⟩
 rw [← hr] at hat ⊢
 have HR:=Lib.hid hr
 clear hr
 have d0 : w1.cell? ⟨w.heap.size,0,none⟩ = some (Pa f):=hbx.cell 0
 have d1 : w1.cell? ⟨f,1,none⟩ = some (.map (some b)):=hF.blk.cell 1
 have hlk : (Instr.lookup 88 (.map (some b)) (.int .i64 ino) false).run Tryz.prog w1 = .ok (.pointer (some ⟨(own ino).g,0,none⟩)) w1:=by
  obtain ⟨_,_,hm⟩:=hF.nodes
  have h:=nodes_look hm ino hi
  rw [ha] at h
  exact h
 obtain ⟨o0,-,-,o3,-,o5,o6⟩:=oc7 hat.op
 have HAT:=Lib.hid hat
 have HF:=Lib.hid hF
 have HND:=Lib.hid hN
 have HBX:=Lib.hid hbx
 have HA1:=Lib.hid hat.an
 have hrge : w.heap.size ≤ r:=by rw [HR.out]; omega
 have HK1 : Hid (KeepF w w1):=Lib.hid (KeepF.of_below hat.bl)
 rw [hko] at o0
 clear hat hF hN hbx
 have k7 : w1.cell? ⟨(own ino).g,7,none⟩ = some (.map (some (own ino).ab)):=hblk.cell 7
 obtain ⟨an,hanc,hmk⟩:=HND.out.att
 have hnm : o.name.size ≤ maxLen:=by have:=hz.name; unfold maxLen; omega
 have hlka : ∀ n,(Instr.lookup 133 (.map (some (own ino).ab)) (.string o.name) true).run Tryz.prog (w1.drewN n) = .ok (.tuple #[((a.at_ o.name).map Value.string).getD (.string ⟨#[]⟩),.bool ((a.at_ o.name).map Value.string).isSome]) (w1.drewN n):=fun n=>by
  have hz : (zeroValue 9).run Tryz.prog (w1.drewN n) = .ok (.string ⟨#[]⟩) (w1.drewN n):=by simp [go_sem]
  exact (hmk.drewN n).look (encS_string Tryz.underlying9) Tryz.underlying133 hz true o.name hnm
 rw [hat0] at hlka
 simp only [Option.map_some,Option.getD_some,Option.isSome_some] at hlka
 go_upto_region 7 with fail
 go_quiet (fail)
 have hb2 : Below w1.heap.size w1 (w1.drewN nq):=⟨rfl,rfl,rfl,Nat.le_refl _,fun _ _=>rfl⟩
 have hA2:=HA1.out.drewN nq
 have hF2:=HF.out.below hb2
 have hK2:=HK1.out.below hb2
 have hblk2:=blk_below hblk hb2
 have p0:=keepc' hb2 o0
 have p3:=keepc' hb2 o3
 have p7:=keepc' hb2 k7
 have hmk2:=hmk.drewN nq
 generalize w1.drewN nq = w2 at *
 clear hb2 hblk hlka o0 o3 o5 o6 d0 d1 hlk k7
 have x1 : w2.cell? ⟨r,1,none⟩ = some (.string ⟨#[]⟩):=hA2.cell 1
 have f1:=hA2.frozen 1
 have hk6 : Keep (fun i=>i = r) w2 (w2.setCell ⟨r,1,none⟩ (.string v)):=keep_set (Keep.refl _ w2) 1 _
 have hA6 : Blk (w2.setCell ⟨r,1,none⟩ (.string v)) r 36 (Ans.cs { ans0 with data:=v }):=hA2.set_ 1 _
 have HA6:=Lib.hid hA6
 have HEND:=Lib.hid (fun W7 h7=>node_end (c:=c) (W7:=W7) (ino:=ino) (a:=a) (o:=o) (an:={ ans0 with data:=v }) (p:={ ansP0 0 with data:=v }) hA6 ((hF2.ans_ hA2 hk6).more (by omega)) (hK2.own hrge hk6) hrge ⟨rfl,rfl,World.ownsRow_nil _ _ _ _,World.ownsRow_nil _ _ _ _,rfl,rfl⟩ (nodeR_get hko hat0) h7)
 clear hk6 hA6 hA2 hF2 hK2 hblk2 hmk hmk2
 go_upto_region 29 with fail
 generalize (w2.setCell ⟨r,1,none⟩ (.string v)) = w6 at *
 obtain ⟨z0,z1,z2,z3,z4,z5,z6,z7,z8,z9,z10⟩:=ans_cells HA6.out
 obtain ⟨r0,r1,r2,r3,r4,r5,r6,r7,r8,r9,r10⟩:=ans_frozen HA6.out
 simp only [ans0,zeroND] at z0 z1 z2 z3 z4 z5 z6 z7 z8 z9 z10
 go_wp2
 refine bodyPost_ret (v:=Ans.val ({ ans0 with data:=v })) ?_ rfl (HEND.out _ ans_keep)
 exact node_results rfl (ans_set (a':={ ans0 with data:=v }) HA6.out)
set_option maxRecDepth 100000 in
set_option maxHeartbeats 8000000 in
theorem fw_node_14_ok [Fence] {c : Nat} {w : World} {f b m : Nat} {own : Int → Own} {fs : FS} (h : FlsB c w f b m own fs) (ino : Int) (a : NodeA) (ha : fs.N ino = some a) (hi : (Lit.int .i64 ino).wf = true) (o : OpA) (hz : OpSmall o) (hc : c ≤ 274877906944) (hko : o.kind = 14) {v : ByteArray} (hat0 : a.at_ o.name = some v) :
 Calls Tryz.prog 59 #[wkV f,.int .i64 ino,o.val] w (NodeEnds c w f b m fs ino a o):=by
 have hat:=da_at w f o
 have hbx:=da_box w f o
 have hF:=h.below hat.bl
 have hN:=hF.node ino a ha
 have hblk:=hN.blk
 unfold wkV OpA.val OpA.cs
 have HKO:=Lib.hid hko
 clear h hko
 go_enter Tryz.func59,Tryz.ntmps59
 go_upto_region 1 with fail
 generalize (((w.alloc (.cells #[Pa f] 78)).alloc (.cells #[.int .i64 o.kind,.string o.path,.string o.dest,.string o.name,.int .i64 o.off,.int .i64 o.n,.string o.data] 24)).alloc (.cells #[.int .i64 0,.string ⟨#[]⟩,.slice none 0 0,.slice none 0 0,.int .i64 0,.int .i64 0,.int .i64 0,.int .i64 0,.int .i64 0,.int .i64 0,.string ⟨#[]⟩] 36)) = w1 at *
 have hko:=HKO.out
 obtain ⟨r,hr⟩ : ∃ r,r = w.heap.size + 1 + 1:=⟨_,rfl⟩
 rw [← hr] at hat ⊢
 have HR:=Lib.hid hr
 clear hr
 have d0 : w1.cell? ⟨w.heap.size,0,none⟩ = some (Pa f):=hbx.cell 0
 have d1 : w1.cell? ⟨f,1,none⟩ = some (.map (some b)):=hF.blk.cell 1
 have hlk : (Instr.lookup 88 (.map (some b)) (.int .i64 ino) false).run Tryz.prog w1 = .ok (.pointer (some ⟨(own ino).g,0,none⟩)) w1:=by
  obtain ⟨_,_,hm⟩:=hF.nodes
  have h:=nodes_look hm ino hi
  rw [ha] at h
  exact h
 obtain ⟨o0,-,-,o3,-,o5,o6⟩:=oc7 hat.op
 have HAT:=Lib.hid hat
 have HF:=Lib.hid hF
 have HND:=Lib.hid hN
 have HBX:=Lib.hid hbx
 have HA1:=Lib.hid hat.an
 have hrge : w.heap.size ≤ r:=by rw [HR.out]; omega
 have HK1 : Hid (KeepF w w1):=Lib.hid (KeepF.of_below hat.bl)
 rw [hko] at o0
 clear hat hF hN hbx
 have k7 : w1.cell? ⟨(own ino).g,7,none⟩ = some (.map (some (own ino).ab)):=hblk.cell 7
 obtain ⟨an,hanc,hmk⟩:=HND.out.att
 have hnm : o.name.size ≤ maxLen:=by have:=hz.name; unfold maxLen; omega
 have hlka : ∀ n,(Instr.lookup 133 (.map (some (own ino).ab)) (.string o.name) true).run Tryz.prog (w1.drewN n) = .ok (.tuple #[((a.at_ o.name).map Value.string).getD (.string ⟨#[]⟩),.bool ((a.at_ o.name).map Value.string).isSome]) (w1.drewN n):=fun n=>by
  have hz : (zeroValue 9).run Tryz.prog (w1.drewN n) = .ok (.string ⟨#[]⟩) (w1.drewN n):=by simp [go_sem]
  exact (hmk.drewN n).look (encS_string Tryz.underlying9) Tryz.underlying133 hz true o.name hnm
 rw [hat0] at hlka
 simp only [Option.map_some,Option.getD_some,Option.isSome_some] at hlka
 go_upto_region 7 with fail
 go_quiet (fail)
 have hb2 : Below w1.heap.size w1 (w1.drewN nq):=⟨rfl,rfl,rfl,Nat.le_refl _,fun _ _=>rfl⟩
 have hA2:=HA1.out.drewN nq
 have hF2:=HF.out.below hb2
 have hK2:=HK1.out.below hb2
 have hblk2:=blk_below hblk hb2
 have p0:=keepc' hb2 o0
 have p3:=keepc' hb2 o3
 have p7:=keepc' hb2 k7
 have hmk2:=hmk.drewN nq
 generalize w1.drewN nq = w2 at *
 clear hb2 hblk hlka o0 o3 o5 o6 d0 d1 hlk k7
 go_upto_region 8 with fail
 have HM2:=Lib.hid hmk2
 have HF2:=Lib.hid hF2
 have HA2:=Lib.hid hA2
 have HK2:=Lib.hid hK2
 clear hmk hmk2 hF2 hA2 hK2 hblk2
 refine wp_region_quiet_tail 6 (by kernel_rfl) (by kernel_rfl) ?_
 simp only [List.take_succ_cons,List.take_zero,List.drop_succ_cons,List.drop_zero]
 repeat (go_big_quiet_step (fail))
 refine wpQuiet_nil ?_
 go_wp2_with (
  refine wpList_mapK_delete _ rfl _ _ 133 rfl 9 (encS_string Tryz.underlying9) Tryz.underlying133 rfl (HM2.out.drewN 1) o.name hnm rfl ?_
  intro w3 hm3 hk3 hs3
  have hF3:=(HF2.out.below (show Below w2.heap.size w2 w2.drew from ⟨rfl,rfl,rfl,Nat.le_refl _,fun _ _=>rfl⟩)).att_ ino a ha (remK a.at_ o.name) hk3 (n:=if ((atV a.at_) o.name).isSome = true then an - 1 else an) (by split <;> omega) (hm3.congr (fun x=>atV_rem a.at_ o.name x))
  have hA3:=KeepF.blk hF3.2 (show Blk w2.drew r 36 ans0.cs from HA2.out) (by decide) (by decide)
  have HA6:=Lib.hid hA3
  have HEND:=Lib.hid (fun W7 h7=>node_end (c:=c) (W7:=W7) (ino:=ino) (a:=a) (o:=o) (an:=ans0) (p:=ansP0 0) hA3 (hF3.1.more (by omega)) (HK2.out.trans (KeepF.trans (KeepF.of_below (show Below w2.heap.size w2 w2.drew from ⟨rfl,rfl,rfl,Nat.le_refl _,fun _ _=>rfl⟩)) hF3.2)) hrge (ansIn0 _ _ 0) (nodeR_del hko (by rw [hat0]; rfl)) h7)
  clear hm3 hk3 hs3 hF3 hA3
  obtain ⟨z0,z1,z2,z3,z4,z5,z6,z7,z8,z9,z10⟩:=ans_cells HA6.out
  obtain ⟨r0,r1,r2,r3,r4,r5,r6,r7,r8,r9,r10⟩:=ans_frozen HA6.out
  simp only [ans0,zeroND] at z0 z1 z2 z3 z4 z5 z6 z7 z8 z9 z10)
 refine bodyPost_ret (v:=Ans.val ans0) ?_ rfl (HEND.out _ ans_keep)
 exact node_results rfl (ans_set (a':=ans0) HA6.out)
set_option maxRecDepth 100000 in
set_option maxHeartbeats 8000000 in
theorem fw_node_12 [Fence] {c : Nat} {w : World} {f b m : Nat} {own : Int → Own} {fs : FS} (h : FlsB c w f b m own fs) (ino : Int) (a : NodeA) (ha : fs.N ino = some a) (hi : (Lit.int .i64 ino).wf = true) (o : OpA) (hz : OpSmall o) (hc : c ≤ 274877906944) (hko : o.kind = 12) :
 Calls Tryz.prog 59 #[wkV f,.int .i64 ino,o.val] w (NodeEnds c w f b m fs ino a o):=by
 have hat:=da_at w f o
 have hbx:=da_box w f o
 have hF:=h.below hat.bl
 have hN:=hF.node ino a ha
 have hblk:=hN.blk
 unfold wkV OpA.val OpA.cs
 have HKO:=Lib.hid hko
 clear h hko
 go_enter Tryz.func59,Tryz.ntmps59
 go_upto_region 1 with fail
 generalize (((w.alloc (.cells #[Pa f] 78)).alloc (.cells #[.int .i64 o.kind,.string o.path,.string o.dest,.string o.name,.int .i64 o.off,.int .i64 o.n,.string o.data] 24)).alloc (.cells #[.int .i64 0,.string ⟨#[]⟩,.slice none 0 0,.slice none 0 0,.int .i64 0,.int .i64 0,.int .i64 0,.int .i64 0,.int .i64 0,.int .i64 0,.string ⟨#[]⟩] 36)) = w1 at *
 have hko:=HKO.out
 obtain ⟨r,hr⟩ : ∃ r,r = w.heap.size + 1 + 1:=⟨_,rfl⟩
 rw [← hr] at hat ⊢
 have HR:=Lib.hid hr
 clear hr
 have d0 : w1.cell? ⟨w.heap.size,0,none⟩ = some (Pa f):=hbx.cell 0
 have d1 : w1.cell? ⟨f,1,none⟩ = some (.map (some b)):=hF.blk.cell 1
 have hlk : (Instr.lookup 88 (.map (some b)) (.int .i64 ino) false).run Tryz.prog w1 = .ok (.pointer (some ⟨(own ino).g,0,none⟩)) w1:=by
  obtain ⟨_,_,hm⟩:=hF.nodes
  have h:=nodes_look hm ino hi
  rw [ha] at h
  exact h
 obtain ⟨o0,-,-,o3,-,o5,o6⟩:=oc7 hat.op
 have HAT:=Lib.hid hat
 have HF:=Lib.hid hF
 have HND:=Lib.hid hN
 have HBX:=Lib.hid hbx
 have HA1:=Lib.hid hat.an
 have hrge : w.heap.size ≤ r:=by rw [HR.out]; omega
 have HK1 : Hid (KeepF w w1):=Lib.hid (KeepF.of_below hat.bl)
 rw [hko] at o0
 clear hat hF hN hbx
 have k7 : w1.cell? ⟨(own ino).g,7,none⟩ = some (.map (some (own ino).ab)):=hblk.cell 7
 obtain ⟨an,hanc,hmk⟩:=HND.out.att
 have hnm : o.name.size ≤ maxLen:=by have:=hz.name; unfold maxLen; omega
 have HM2:=Lib.hid hmk
 clear hmk hblk
 go_upto_region 4 with fail
 refine wp_region_quiet_tail 8 (by kernel_rfl) (by kernel_rfl) ?_
 simp only [List.take_succ_cons,List.take_zero,List.drop_succ_cons,List.drop_zero]
 repeat (go_big_quiet_step (fail))
 refine wpQuiet_nil ?_
 go_wp2_with (
  refine wpList_mapK_store _ rfl _ _ _ 133 rfl 9 (encS_string Tryz.underlying9) Tryz.underlying133 rfl (HM2.out.drewN 1) (by unfold maxLen; omega) o.name hnm (.string o.data) rfl rfl ?_
  intro w3 hm3 hk3 hs3
  have hF3:=(HF.out.below (show Below w1.heap.size w1 w1.drew from ⟨rfl,rfl,rfl,Nat.le_refl _,fun _ _=>rfl⟩)).att_ ino a ha (updK a.at_ o.name o.data) hk3 (n:=if ((atV a.at_) o.name).isSome = true then an else an + 1) (by split <;> omega) (hm3.congr (fun x=>congrFun (atV_upd a.at_ o.name o.data) x))
  have hA3:=KeepF.blk hF3.2 (show Blk w1.drew r 36 ans0.cs from HA1.out) (by decide) (by decide)
  have HA6:=Lib.hid hA3
  have HEND:=Lib.hid (fun W7 h7=>node_end (c:=c) (W7:=W7) (ino:=ino) (a:=a) (o:=o) (an:=ans0) (p:=ansP0 0) hA3 (hF3.1.more (by omega)) (HK1.out.trans (KeepF.trans (KeepF.of_below (show Below w1.heap.size w1 w1.drew from ⟨rfl,rfl,rfl,Nat.le_refl _,fun _ _=>rfl⟩)) hF3.2)) hrge (ansIn0 _ _ 0) (nodeR_set hko) h7)
  clear hm3 hk3 hs3 hF3 hA3
  obtain ⟨z0,z1,z2,z3,z4,z5,z6,z7,z8,z9,z10⟩:=ans_cells HA6.out
  obtain ⟨r0,r1,r2,r3,r4,r5,r6,r7,r8,r9,r10⟩:=ans_frozen HA6.out
  simp only [ans0,zeroND] at z0 z1 z2 z3 z4 z5 z6 z7 z8 z9 z10)
 refine bodyPost_ret (v:=Ans.val ans0) ?_ rfl (HEND.out _ ans_keep)
 exact node_results rfl (ans_set (a':=ans0) HA6.out)
set_option maxRecDepth 100000 in
set_option maxHeartbeats 8000000 in
theorem fw_node_15 [Fence] {c : Nat} {w : World} {f b m : Nat} {own : Int → Own} {fs : FS} (h : FlsB c w f b m own fs) (ino : Int) (a : NodeA) (ha : fs.N ino = some a) (hi : (Lit.int .i64 ino).wf = true) (o : OpA) (_hz : OpSmall o) (hc : c ≤ 274877906944) (hko : o.kind = 15) :
 Calls Tryz.prog 59 #[wkV f,.int .i64 ino,o.val] w (NodeEnds c w f b m fs ino a o):=by
 have hat:=da_at w f o
 have hbx:=da_box w f o
 have hF:=h.below hat.bl
 have hN:=hF.node ino a ha
 have hblk:=hN.blk
 unfold wkV OpA.val OpA.cs
 have HKO:=Lib.hid hko
 clear h hko
 go_enter Tryz.func59,Tryz.ntmps59
 go_upto_region 1 with fail
 generalize (((w.alloc (.cells #[Pa f] 78)).alloc (.cells #[.int .i64 o.kind,.string o.path,.string o.dest,.string o.name,.int .i64 o.off,.int .i64 o.n,.string o.data] 24)).alloc (.cells #[.int .i64 0,.string ⟨#[]⟩,.slice none 0 0,.slice none 0 0,.int .i64 0,.int .i64 0,.int .i64 0,.int .i64 0,.int .i64 0,.int .i64 0,.string ⟨#[]⟩] 36)) = w1 at *
 have hko:=HKO.out
 obtain ⟨r,hr⟩ : ∃ r,r = w.heap.size + 1 + 1:=⟨_,rfl⟩
 rw [← hr] at hat ⊢
 have HR:=Lib.hid hr
 clear hr
 have d0 : w1.cell? ⟨w.heap.size,0,none⟩ = some (Pa f):=hbx.cell 0
 have d1 : w1.cell? ⟨f,1,none⟩ = some (.map (some b)):=hF.blk.cell 1
 have hlk : (Instr.lookup 88 (.map (some b)) (.int .i64 ino) false).run Tryz.prog w1 = .ok (.pointer (some ⟨(own ino).g,0,none⟩)) w1:=by
  obtain ⟨_,_,hm⟩:=hF.nodes
  have h:=nodes_look hm ino hi
  rw [ha] at h
  exact h
 obtain ⟨o0,-,-,o3,-,o5,o6⟩:=oc7 hat.op
 have HAT:=Lib.hid hat
 have HF:=Lib.hid hF
 have HND:=Lib.hid hN
 have HBX:=Lib.hid hbx
 have HA1:=Lib.hid hat.an
 have hrge : w.heap.size ≤ r:=by rw [HR.out]; omega
 have HK1 : Hid (KeepF w w1):=Lib.hid (KeepF.of_below hat.bl)
 rw [hko] at o0
 clear hat hF hN hbx
 have k7 : w1.cell? ⟨(own ino).g,7,none⟩ = some (.map (some (own ino).ab)):=hblk.cell 7
 obtain ⟨an,hanc,hmk⟩:=HND.out.att
 have HLS:=Lib.hid (st_sorted hmk (by omega))
 clear hmk
 have x2 : w1.cell? ⟨r,2,none⟩ = some (.slice none 0 0):=HA1.out.cell 2
 clear hblk
 go_wp2_with fail
 refine HLS.out.mono ?_
 rintro e w2 ⟨⟨A,q,l,rfl,⟨hl1,hl2⟩,hown⟩,hb2⟩
 have hA2:=blk_below HA1.out hb2
 have hF2:=HF.out.below hb2
 have x2 : w2.cell? ⟨r,2,none⟩ = some (.slice none 0 0):=hA2.cell 2
 have f2:=hA2.frozen 2
 have hk6 : Keep (fun i=>i = r) w2 (w2.setCell ⟨r,2,none⟩ (.slice A l.length q)):=keep_set (Keep.refl _ w2) 2 _
 have hA6 : Blk (w2.setCell ⟨r,2,none⟩ (.slice A l.length q)) r 36 (Ans.cs { ans0 with names:=.slice A l.length q }):=hA2.set_ 2 _
 have HA6:=Lib.hid hA6
 have ho6:=blk_of_own hown hA2 (by decide) hk6
 have hlt : w.heap.size ≤ w1.heap.size:=HAT.out.bl.size
 have HEND:=Lib.hid (fun W7 h7=>node_end (c:=c) (W7:=W7) (ino:=ino) (a:=a) (o:=o) (an:={ ans0 with names:=.slice A l.length q }) (p:={ ansP0 0 with names:=sortT l }) hA6 ((hF2.ans_ hA2 hk6).more (by omega)) ((HK1.out.below hb2).own hrge hk6) hrge ⟨rfl,rfl,by
  show World.ownsRow _ _ _ _ _ (sortT l).length _
  rw [sortT_length]
  exact own_base ho6 (fun k hk=>Nat.le_trans hlt (ho6.lt k hk).1),World.ownsRow_nil _ _ _ _,rfl,rfl⟩ (nodeR_attrs hko hl1 hl2) h7)
 generalize l.length = nl at *
 clear hk6 hA6 ho6 hown hA2 hF2 hb2
 go_upto_region 29 with fail
 generalize (w2.setCell ⟨r,2,none⟩ (.slice A nl q)) = w6 at *
 obtain ⟨z0,z1,z2,z3,z4,z5,z6,z7,z8,z9,z10⟩:=ans_cells HA6.out
 obtain ⟨r0,r1,r2,r3,r4,r5,r6,r7,r8,r9,r10⟩:=ans_frozen HA6.out
 simp only [ans0,zeroND] at z0 z1 z2 z3 z4 z5 z6 z7 z8 z9 z10
 go_wp2
 refine bodyPost_ret (v:=Ans.val ({ ans0 with names:=.slice A nl q })) ?_ rfl (HEND.out _ ans_keep)
 exact node_results rfl (ans_set (a':={ ans0 with names:=.slice A nl q }) HA6.out)
theorem fw_node [Fence] {c : Nat} {w : World} {f b m : Nat} {own : Int → Own} {fs : FS} (h : FlsB c w f b m own fs) (ino : Int) (a : NodeA) (ha : fs.N ino = some a) (hi : (Lit.int .i64 ino).wf = true) (o : OpA) (hz : OpSmall o) (hc : c ≤ 274877906944) (hk : 12 ≤ o.kind ∧ o.kind ≤ 20) :
 Calls Tryz.prog 59 #[wkV f,.int .i64 ino,o.val] w (NodeEnds c w f b m fs ino a o):=by
 have hk' : o.kind = 12 ∨ o.kind = 13 ∨ o.kind = 14 ∨ o.kind = 15 ∨ o.kind = 16 ∨ o.kind = 17 ∨ o.kind = 18 ∨ o.kind = 19 ∨ o.kind = 20:=by omega
 rcases hk' with k | k | k | k | k | k | k | k | k
 ·exact fw_node_12 h ino a ha hi o hz hc k
 ·cases hat : a.at_ o.name with
  | none=>exact fw_node_13_no h ino a ha hi o hz hc k hat
  | some v=>exact fw_node_13_ok h ino a ha hi o hz hc k hat
 ·cases hat : a.at_ o.name with
  | none=>exact fw_node_14_no h ino a ha hi o hz hc k hat
  | some v=>exact fw_node_14_ok h ino a ha hi o hz hc k hat
 ·exact fw_node_15 h ino a ha hi o hz hc k
 ·exact fw_node_16 h ino a ha hi o hz hc k
 ·exact fw_node_17 h ino a ha hi o hz hc k
 ·by_cases hd : a.nd.kind = 2
  ·exact fw_node_18_ok h ino a ha hi o hz hc k hd
  ·exact fw_node_18_no h ino a ha hi o hz hc k hd
 ·by_cases hd : a.nd.kind = 3
  ·exact fw_node_19_ok h ino a ha hi o hz hc k hd
  ·exact fw_node_19_no h ino a ha hi o hz hc k hd
 ·exact fw_node_20 h ino a ha hi o hz hc k
end Go.Proofs.YtpboohfofodeeaaGreatDoor
