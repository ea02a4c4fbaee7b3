/- files: rename (conditions: none; printed by gen_rename.py). -/
import Derived.Test.YtpboohfofodeeaaGreatDoorM19
import Derived.Test.YtpboohfofodeeaaGreatDoorM09
import Derived.Test.YtpboohfofodeeaaGreatDoorM13
namespace Go.Proofs.YtpboohfofodeeaaGreatDoor
open Go.RowKit Go.Maps
/-- What stands somewhere is moved: status and files. -/
def RenR (fs : FS) (sl : SlotK) (ino : Int) (a : NodeA) (tp : ByteArray) (code : Int) (fs' : FS) : Prop:=
 (sl.1.2.toList.isEmpty = true ∧ code = 1 ∧ fs' = fs) ∨ (sl.1.2.toList.isEmpty = false ∧
  (((walkS fs tp false).code ≠ 0 ∧ code = (walkS fs tp false).code ∧ fs' = fs) ∨ ((walkS fs tp false).code = 0 ∧
   (((walkS fs tp false).name.toList.isEmpty = true ∧ code = 161 ∧ fs' = fs) ∨ ((walkS fs tp false).name.toList.isEmpty = false ∧
    (((walkS fs tp false).ino = ino ∧ code = 0 ∧ fs' = fs) ∨ ((walkS fs tp false).ino ≠ ino ∧
     ((a.nd.kind = 2 ∧ intoP fs (walkS fs tp false).dir ino ∧ code = 165 ∧ fs' = fs) ∨ ((a.nd.kind = 2 → ¬ intoP fs (walkS fs tp false).dir ino) ∧
      ((∃ o,fs.N (walkS fs tp false).ino = some o ∧ a.nd.kind = 2 ∧ o.nd.kind ≠ 2 ∧ code = 162 ∧ fs' = fs) ∨
       (∃ o,fs.N (walkS fs tp false).ino = some o ∧ a.nd.kind = 2 ∧ o.nd.kind = 2 ∧ ¬ emptyS fs.G (walkS fs tp false).ino ∧ code = 164 ∧ fs' = fs) ∨
       (∃ o,fs.N (walkS fs tp false).ino = some o ∧ a.nd.kind ≠ 2 ∧ o.nd.kind = 2 ∧ code = 163 ∧ fs' = fs) ∨
       (∃ t : SlotK,t.1 = ((walkS fs tp false).dir,(walkS fs tp false).name) ∧ ((code = 120 ∧ longS fs') ∨ (code = 0 ∧ ¬ longS fs')) ∧
        ((fs.N (walkS fs tp false).ino = none ∧ fs' = putG { fs with G:=remK fs.G sl } t ino) ∨
         (∃ o,fs.N (walkS fs tp false).ino = some o ∧ (a.nd.kind = 2 → o.nd.kind = 2 ∧ emptyS fs.G (walkS fs tp false).ino) ∧ (a.nd.kind ≠ 2 → o.nd.kind ≠ 2) ∧
          fs' = putG { awayS fs t (walkS fs tp false).ino o with G:=remK (awayS fs t (walkS fs tp false).ino o).G sl } t ino)))))))))))))
theorem remK_ok {G : SlotK → Option Int} {s x : SlotK} {i : Int} (h : remK G s x = some i) : G x = some i:=by
 unfold remK at h
 by_cases h1 : x = s
 ·rw [if_pos h1] at h; cases h
 ·rw [if_neg h1] at h; exact h
theorem names_rem {fs : FS} (h : namesOk fs) (s : SlotK) : namesOk { fs with G:=remK fs.G s }:=fun x i hx=>h x i (remK_ok hx)
theorem names_away {fs : FS} (h : namesOk fs) (s : SlotK) (ino : Int) (o : NodeA) : namesOk (awayS fs s ino o):=fun x i hx=>h x i (remK_ok hx)
set_option maxRecDepth 100000 in
set_option maxHeartbeats 16000000 in
theorem fw_rename [Fence] {c : Nat} {w : World} {f b m : Nat} {own : Int → Own} {fs : FS} (h : FlsB c w f b m own fs) (hR : RightFS fs) (hG : GoodN fs) (hn : namesOk fs) (hlv : LibV w) (sl : SlotK) (ino : Int) (a : NodeA) (ha : fs.N ino = some a) (hi : (Lit.int .i64 ino).wf = true) (tp : ByteArray) (hto : tp.size ≤ 140737488351232) (hc : c + 3 < 1099511627776) :
 Calls Tryz.prog 56 #[wkV f,spotC sl.1.1 sl.1.2 ino,.string tp] w (OpEndsR (c + 3) w f b m (RenR fs sl ino a tp)):=by
 have hwok:=walk_ok hR h.wf tp false
 have hb0 : Below w.heap.size w ((w.alloc (.cells #[Pa f] 78)).alloc (.cells #[.int .i64 sl.1.1,.string sl.1.2,.int .i64 ino] 119)):=((Below.refl _ _).alloc (Nat.le_refl _) _).alloc (by simp) _
 have hF:=h.below hb0
 have hLV:=hlv.below hb0
 have hW:=(Blk.new w 78 #[Pa f]).alloc (.cells #[.int .i64 sl.1.1,.string sl.1.2,.int .i64 ino] 119)
 have hS:=Blk.new (w.alloc (.cells #[Pa f] 78)) 119 #[.int .i64 sl.1.1,.string sl.1.2,.int .i64 ino]
 have e1 : (w.alloc (.cells #[Pa f] 78)).heap.size = w.heap.size + 1:=by simp
 rw [e1] at hS
 have HB0:=Lib.hid hb0
 have HLR:=Lib.hid (fun code fs'=>(Iff.rfl : RenR fs sl ino a tp code fs' ↔ RenR fs sl ino a tp code fs'))
 conv at HLR=>arg 1; intro code fs'; rhs; unfold RenR
 have HR:=Lib.hid hR
 have HG:=Lib.hid hG
 have HWK:=Lib.hid hwok
 generalize hwk : walkS fs tp false = wk at *
 have HWE:=Lib.hid hwk
 unfold wkV spotC
 clear h hb0 e1 hR hG hwok hwk hlv
 obtain ⟨wd,wn,wi,wc_⟩:=wk
 go_enter Tryz.func56,Tryz.ntmps56
 go_upto_region 1 with fail
 generalize (w.alloc (.cells #[Pa f] 78)).alloc (.cells #[.int .i64 sl.1.1,.string sl.1.2,.int .i64 ino] 119) = w1 at *
 have d0 : w1.cell? ⟨w.heap.size,0,none⟩ = some (Pa f):=hW.cell 0
 have s0 : w1.cell? ⟨w.heap.size + 1,0,none⟩ = some (.int .i64 sl.1.1):=hS.cell 0
 have s1 : w1.cell? ⟨w.heap.size + 1,1,none⟩ = some (.string sl.1.2):=hS.cell 1
 have s2 : w1.cell? ⟨w.heap.size + 1,2,none⟩ = some (.int .i64 ino):=hS.cell 2
 have HF:=Lib.hid hF
 have HW:=Lib.hid hW
 have HS:=Lib.hid hS
 have HL:=Lib.hid hLV
 have hHe:=Lib.hid (fl_here sl.1.1 sl.1.2 ino w1)
 unfold spotV at hHe
 clear hF hW hS hLV
 by_cases hh : sl.1.2.toList.isEmpty = true
 ·rw [hh] at hHe
  have HY:=Lib.hid ((HLR.out 1 fs).2 (.inl ⟨hh,rfl,rfl⟩))
  go_wp2_with (go_at_call 107; refine hHe.out.mono ?_; rintro e w4 ⟨rfl,hb4⟩; have HB4:=Lib.hid hb4; clear hb4)
  go_ret
  exact ⟨1,fs,own,rfl,HY.out,(HF.out.below HB4.out).more (by omega),KeepF.of_below (bl_t HB0.out HB4.out)⟩
 have hh' : sl.1.2.toList.isEmpty = false:=by simpa using hh
 rw [hh'] at hHe
 replace HLR:=Lib.hid (fun code fs' hq=>(HLR.out code fs').2 (.inr ⟨hh',hq⟩))
 clear hh
 have hWA:=Lib.hid (fun W (hb : Below w1.heap.size w1 W)=>by
  have h1:=fw_walk (HF.out.below hb) HR.out HG.out (HL.out.below hb) tp false hto
  rw [HWE.out] at h1
  unfold wkV spotC at h1
  exact h1)
 go_upto_region 4 with (first
  |(go_at_call 107; refine hHe.out.mono ?_; rintro e w3 ⟨rfl,hb3⟩; have HB3:=Lib.hid hb3; clear hb3; clear d0 s0 s1 s2; have d0 : w3.cell? ⟨w.heap.size,0,none⟩ = some (Pa f):=(blk_below HW.out HB3.out).cell 0)
  |(go_at_call 53; refine (hWA.out _ HB3.out).mono ?_; rintro e w4 ⟨rfl,hb4⟩; have HB4:=Lib.hid (bl_t HB3.out hb4); clear hb4))
 have hb5 : Below w1.heap.size w1 (w4.alloc (.cells #[.int .i64 wd,.string wn,.int .i64 wi] 119)):=HB4.out.alloc HB4.out.size _
 have HT:=Lib.hid (Blk.new w4 119 #[.int .i64 wd,.string wn,.int .i64 wi])
 have lt0 : w.heap.size + 1 < w1.heap.size:=HS.out.lt
 have lt4 : w1.heap.size ≤ w4.heap.size:=HB4.out.size
 have lt5 : w4.heap.size < (w4.alloc (.cells #[.int .i64 wd,.string wn,.int .i64 wi] 119)).heap.size:=by simp
 clear d0
 generalize w4.alloc (.cells #[.int .i64 wd,.string wn,.int .i64 wi] 119) = w5 at *
 have HF5:=Lib.hid (HF.out.below hb5)
 have HW5:=Lib.hid (blk_below HW.out hb5)
 have HS5:=Lib.hid (blk_below HS.out hb5)
 have HB5:=Lib.hid (bl_t HB0.out hb5)
 have d0 : w5.cell? ⟨w.heap.size,0,none⟩ = some (Pa f):=HW5.out.cell 0
 have d1 : w5.cell? ⟨f,1,none⟩ = some (.map (some b)):=HF5.out.blk.cell 1
 have s2 : w5.cell? ⟨w.heap.size + 1,2,none⟩ = some (.int .i64 ino):=HS5.out.cell 2
 have t2 : w5.cell? ⟨w4.heap.size,2,none⟩ = some (.int .i64 wi):=HT.out.cell 2
 have hL : ∀ n,(Instr.lookup 88 (.map (some b)) (.int .i64 ino) false).run Tryz.prog (w5.drewN n) = .ok (.pointer (some ⟨(own ino).g,0,none⟩)) (w5.drewN n):=fun n=>by
  rw [HF5.out.lookN ino hi n,ha]
  rfl
 have hwfi : (Lit.int .i64 wi).wf = true:=by
  by_cases h0 : wc_ = 0
  ·obtain ⟨_,_,_,h⟩:=HWK.out.slot h0
   exact h
  ·have h:=(HWK.out.1 h0).2.2
   simp only at h
   rw [h]; decide
 obtain ⟨V,hV⟩ : ∃ V,V = ((fs.N wi).map fun _=>ptrG (own wi).g).getD (.pointer none):=⟨_,rfl⟩
 have hL2 : ∀ n,(Instr.lookup 88 (.map (some b)) (.int .i64 wi) false).run Tryz.prog (w5.drewN n) = .ok V (w5.drewN n):=fun n=>by
  rw [HF5.out.lookN wi hwfi n,hV]
 have HV:=Lib.hid hV
 clear hV
 go_quiet (fail)
 clear hL hL2 d0 d1 s2 t2 hb5
 have hbq : Below w5.heap.size w5 (w5.drewN nq):=below_drewN (Below.refl _ _) nq
 have HB6:=Lib.hid (bl_t HB5.out hbq)
 have HF6:=Lib.hid (HF5.out.below hbq)
 have HW6:=Lib.hid (blk_below HW5.out hbq)
 have HS6:=Lib.hid (blk_below HS5.out hbq)
 have HT6:=Lib.hid (blk_below HT.out hbq)
 clear hbq
 generalize w5.drewN nq = w6 at *
 by_cases hwc : wc_ = 0
 case neg=>
  have hwc' : (wc_ != 0) = true:=by simpa using hwc
  have HY:=Lib.hid (HLR.out wc_ fs (.inl ⟨hwc,rfl,rfl⟩))
  clear hwc
  go_wp2
  go_ret
  exact ⟨wc_,fs,own,rfl,HY.out,HF6.out.more (by omega),KeepF.of_below HB6.out⟩
 have hwc' : (wc_ != 0) = false:=by simpa using hwc
 replace HLR:=Lib.hid (fun code fs' hq=>HLR.out code fs' (.inr ⟨hwc,hq⟩))
 obtain ⟨tl,htl,htz,_⟩:=HWK.out.slot hwc
 have htl1 : tl.1.1 = wd:=by rw [htl]
 have htl2 : tl.1.2 = wn:=by rw [htl]
 have HWK2:=Lib.hid (HWK.out.2 hwc)
 clear hwc HWK
 have t0 : w6.cell? ⟨w4.heap.size,0,none⟩ = some (.int .i64 wd):=HT6.out.cell 0
 have t1 : w6.cell? ⟨w4.heap.size,1,none⟩ = some (.string wn):=HT6.out.cell 1
 have t2 : w6.cell? ⟨w4.heap.size,2,none⟩ = some (.int .i64 wi):=HT6.out.cell 2
 have hHt:=Lib.hid (fl_here wd wn wi w6)
 unfold spotV at hHt
 by_cases hth : wn.toList.isEmpty = true
 ·rw [hth] at hHt
  have HY:=Lib.hid (HLR.out 161 fs (.inl ⟨hth,rfl,rfl⟩))
  go_wp2_with (go_at_call 107; refine hHt.out.mono ?_; rintro e w7 ⟨rfl,hb7⟩; have HB7:=Lib.hid hb7; clear hb7)
  go_ret
  exact ⟨161,fs,own,rfl,HY.out,(HF6.out.below HB7.out).more (by omega),KeepF.of_below (bl_t HB6.out HB7.out)⟩
 have hth' : wn.toList.isEmpty = false:=by simpa using hth
 rw [hth'] at hHt
 replace HLR:=Lib.hid (fun code fs' hq=>HLR.out code fs' (.inr ⟨hth',hq⟩))
 have HDD : Hid (isDir fs wd):=Lib.hid (by
  rcases HWK2.out with ⟨h1,_,_⟩ | ⟨_,h2,_⟩
  ·rw [show wn = _ from h1,List.isEmpty_eq_false_iff] at hth'
   exact absurd (by simp) hth'
  ·exact h2.dir)
 clear hth HWK2
 go_upto_region 10 with (go_at_call 107; refine hHt.out.mono ?_; rintro e w7 ⟨rfl,hb7⟩; have HB7:=Lib.hid hb7; clear hb7)
 clear t0 t1 t2
 replace HF6:=Lib.hid (HF6.out.below HB7.out)
 replace HW6:=Lib.hid (blk_below HW6.out HB7.out)
 replace HS6:=Lib.hid (blk_below HS6.out HB7.out)
 replace HT6:=Lib.hid (blk_below HT6.out HB7.out)
 replace HB6:=Lib.hid (bl_t HB6.out HB7.out)
 clear HB7 hHt hHe hWA HB5 HF5 HW5 HS5 HT
 have d0 : w7.cell? ⟨w.heap.size,0,none⟩ = some (Pa f):=HW6.out.cell 0
 have s2 : w7.cell? ⟨w.heap.size + 1,2,none⟩ = some (.int .i64 ino):=HS6.out.cell 2
 have t0 : w7.cell? ⟨w4.heap.size,0,none⟩ = some (.int .i64 wd):=HT6.out.cell 0
 have t1 : w7.cell? ⟨w4.heap.size,1,none⟩ = some (.string wn):=HT6.out.cell 1
 have t2 : w7.cell? ⟨w4.heap.size,2,none⟩ = some (.int .i64 wi):=HT6.out.cell 2
 have k0 : w7.cell? ⟨(own ino).g,0,none⟩ = some (.int .i64 a.nd.kind):=(HF6.out.node ino a ha).blk.cell 0
 by_cases hsame : wi = ino
 ·have hsame' : (wi == ino) = true:=by simpa using hsame
  have HY:=Lib.hid (HLR.out 0 fs (.inl ⟨hsame,rfl,rfl⟩))
  clear hsame
  go_wp2
  go_ret
  exact ⟨0,fs,own,rfl,HY.out,HF6.out.more (by omega),KeepF.of_below HB6.out⟩
 have hsame' : (wi == ino) = false:=by simpa using hsame
 replace HLR:=Lib.hid (fun code fs' hq=>HLR.out code fs' (.inr ⟨hsame,hq⟩))
 clear hsame
 have hIn:=Lib.hid (fw_into HF6.out HR.out HG.out wd ino HDD.out)
 unfold wkV at hIn
 by_cases hk : a.nd.kind = 2
 ·have hk' : (a.nd.kind == 2) = true:=by simpa using hk
  have hk2 : (a.nd.kind != 2) = false:=by simpa using hk
  by_cases hin : intoP fs wd ino
  ·have HY:=Lib.hid (HLR.out 165 fs (.inl ⟨hk,hin,rfl,rfl⟩))
   have HI:=Lib.hid hin
   clear hk hin
   go_wp2_with (go_at_call 108; refine hIn.out.mono ?_; rintro e w8 ⟨⟨r,rfl,hr⟩,hb8⟩; obtain rfl : r = true:=hr.2 HI.out; have HB8:=Lib.hid hb8; clear hr hb8)
   all_goals go_ret
   all_goals exact ⟨165,fs,own,rfl,HY.out,(HF6.out.below HB8.out).more (by omega),KeepF.of_below (bl_t HB6.out HB8.out)⟩
  replace HLR:=Lib.hid (fun code fs' hq=>HLR.out code fs' (.inr ⟨fun _=>hin,hq⟩))
  have HI:=Lib.hid hin
  clear hin
  go_upto_region 14 with (go_at_call 108; refine hIn.out.mono ?_; rintro e w8 ⟨⟨r,rfl,hr⟩,hb8⟩; obtain rfl : r = false:=Bool.eq_false_iff.2 fun h=>HI.out (hr.1 h); have HB8:=Lib.hid hb8; clear hr hb8)
  have HF8:=Lib.hid (HF6.out.below HB8.out)
  have HBq:=Lib.hid HB8.out
  replace HB8:=Lib.hid (bl_t HB6.out HB8.out)
  clear d0 s2 t0 t1 t2 k0
  have HWz:=Lib.hid (blk_below HW6.out HBq.out)
  have HSz:=Lib.hid (blk_below HS6.out HBq.out)
  have HTz:=Lib.hid (blk_below HT6.out HBq.out)
  have k0 : w8.cell? ⟨(own ino).g,0,none⟩ = some (.int .i64 a.nd.kind):=(HF8.out.node ino a ha).blk.cell 0
  have a0 : w8.cell? ⟨w.heap.size,0,none⟩ = some (Pa f):=HWz.out.cell 0
  have b0 : w8.cell? ⟨w4.heap.size,0,none⟩ = some (.int .i64 wd):=HTz.out.cell 0
  have b1 : w8.cell? ⟨w4.heap.size,1,none⟩ = some (.string wn):=HTz.out.cell 1
  have b2 : w8.cell? ⟨w4.heap.size,2,none⟩ = some (.int .i64 wi):=HTz.out.cell 2
  cases ho : fs.N wi with
  | none=>
   have hv:=HV.out
   rw [ho] at hv
   simp only [Option.map_none,Option.getD_none] at hv
   subst hv
   have HY:=Lib.hid (fun er hcd=>HLR.out er (putG { fs with G:=remK fs.G sl } tl ino) (.inr (.inr (.inr ⟨tl,htl,hcd,.inl ⟨ho,rfl⟩⟩))))
   clear ho hk k0 b0 b1 b2
   go_upto_region 21 with fail
   clear a0
   have HFd:=Lib.hid (HF8.out.below (Below.refl _ _).drew)
   have z0 : w8.cell? ⟨w.heap.size,0,none⟩ = some (Pa f):=HWz.out.cell 0
   have z1 : w8.cell? ⟨f,2,none⟩ = some (.map (some m)):=HF8.out.blk.cell 2
   have z2 : w8.cell? ⟨w.heap.size + 1,0,none⟩ = some (.int .i64 sl.1.1):=HSz.out.cell 0
   have z3 : w8.cell? ⟨w.heap.size + 1,1,none⟩ = some (.string sl.1.2):=HSz.out.cell 1
   obtain ⟨n2,x2,y2⟩:=HFd.out.names
   obtain ⟨w20,hrun,hm3,hk3,hs3⟩:=y2.drop slot_enc Tryz.underlying89 sl trivial 0
   have hrun2 : (Builtin.delete_ #[89,96] 0 #[.map (some m),.agg #[.int .i64 sl.1.1,.string sl.1.2]]).run Tryz.prog w8.drew = .ok (.tuple #[]) w20:=hrun
   have hq:=HFd.out.names_ (remK (fs).G sl) (fun s i e=>HFd.out.wf s i (remK_ok e)) hk3 (n:=if (nmV (fs).G sl).isSome = true then n2 - 1 else n2) (by
    have h1 : n2 ≤ c:=x2
    split <;> omega) (by rw [← nmV_rem]; exact hm3)
   have hkd : KeepF w8 w20:=KeepF.after (Below.refl _ _).drew hq.2
   have HKz:=Lib.hid (KeepF.trans (KeepF.of_below HB8.out) hkd)
   have HW20:=Lib.hid (KeepF.blk hkd HWz.out (by decide) (by decide))
   have HS20:=Lib.hid (KeepF.blk hkd HSz.out (by decide) (by decide))
   have HT20:=Lib.hid (KeepF.blk hkd HTz.out (by decide) (by decide))
   have HQ20:=Lib.hid hq.1
   clear hm3 hk3 hs3 hq y2 hrun hkd
   refine wp_region_quiet_tail 7 (by kernel_rfl) (by kernel_rfl) ?_
   simp only [List.take_succ_cons,List.take_zero,List.drop_succ_cons,List.drop_zero]
   repeat (go_big_quiet_step (fail))
   refine wpQuiet_nil ?_
   clear z0 z1 z2 z3
   go_upto_region 22 with fail
   clear hrun2
   have z0 : w20.cell? ⟨w.heap.size,0,none⟩ = some (Pa f):=HW20.out.cell 0
   have z1 : w20.cell? ⟨w.heap.size + 1,2,none⟩ = some (.int .i64 ino):=HS20.out.cell 2
   have z2 : w20.cell? ⟨w4.heap.size,0,none⟩ = some (.int .i64 wd):=HT20.out.cell 0
   have z3 : w20.cell? ⟨w4.heap.size,1,none⟩ = some (.string wn):=HT20.out.cell 1
   have hP:=Lib.hid (fw_put HQ20.out (names_rem hn sl) tl htz ino hi (by omega))
   rw [htl1,htl2] at hP
   unfold wkV slotV at hP
   go_wp2_with (
    go_at_call 106
    refine hP.out.mono ?_
    rintro e w21 ⟨⟨er,rfl,hcase⟩,hF21,hKF21⟩
    have HC21:=Lib.hid hcase
    have HF21:=Lib.hid hF21
    have HKF21:=Lib.hid hKF21
    clear hcase hF21 hKF21)
   all_goals go_ret
   all_goals exact ⟨er,_,_,rfl,HY.out er HC21.out,HF21.out.more (by omega),HKz.out.trans HKF21.out⟩
  | some o=>
   have hv:=HV.out
   rw [ho] at hv
   simp only [Option.map_some,Option.getD_some,ptrG] at hv
   subst hv
   have l0 : w8.cell? ⟨(own wi).g,0,none⟩ = some (.int .i64 o.nd.kind):=(HF8.out.node wi o ho).blk.cell 0
   by_cases hok : o.nd.kind = 2
   ·have hok' : (o.nd.kind != 2) = false:=by simpa using hok
    have hok2 : (o.nd.kind == 2) = true:=by simpa using hok
    have hEm:=Lib.hid (fw_empty HF8.out wi)
    unfold wkV at hEm
    by_cases he : emptyS fs.G wi
    ·have HY:=Lib.hid (fun er hcd=>HLR.out er (putG { awayS fs tl wi o with G:=remK (awayS fs tl wi o).G sl } tl ino) (.inr (.inr (.inr ⟨tl,htl,hcd,.inr ⟨o,ho,fun _=>⟨hok,he⟩,fun h=>absurd hk h,rfl⟩⟩))))
     have HE:=Lib.hid he
     have HAL:=HG.out wi o ho
     clear he hk hok
     go_upto_region 21 with (first
      |(go_at_call 109
        refine hEm.out.mono ?_
        rintro e w9 ⟨⟨r,rfl,hr⟩,hb9⟩
        obtain rfl : r = true:=hr.2 HE.out
        have HB9:=Lib.hid hb9
        have c0 : w9.cell? ⟨w.heap.size,0,none⟩ = some (Pa f):=(blk_below HWz.out hb9).cell 0
        have c1 : w9.cell? ⟨w4.heap.size,0,none⟩ = some (.int .i64 wd):=(blk_below HTz.out hb9).cell 0
        have c2 : w9.cell? ⟨w4.heap.size,1,none⟩ = some (.string wn):=(blk_below HTz.out hb9).cell 1
        have c3 : w9.cell? ⟨w4.heap.size,2,none⟩ = some (.int .i64 wi):=(blk_below HTz.out hb9).cell 2
        have k9 : w9.cell? ⟨(own ino).g,0,none⟩ = some (.int .i64 a.nd.kind):=((HF8.out.below hb9).node ino a ha).blk.cell 0
        have hAw:=Lib.hid (fw_away (HF8.out.below hb9) tl wi o ho hwfi ⟨HAL.1,HAL.2.1⟩)
        rw [htl1,htl2] at hAw
        unfold wkV spotC at hAw
        clear hr hb9)
      |(go_at_call 110
        refine hAw.out.mono ?_
        rintro e w10 ⟨rfl,hq,hkf⟩
        have HQ:=Lib.hid hq
        have HKA:=Lib.hid (KeepF.after HB9.out hkf)
        clear hq hkf))
     clear k0 a0 b0 b1 b2 l0 c0 c1 c2 c3 k9
     replace HWz:=Lib.hid (KeepF.blk HKA.out HWz.out (by decide) (by decide))
     replace HSz:=Lib.hid (KeepF.blk HKA.out HSz.out (by decide) (by decide))
     replace HTz:=Lib.hid (KeepF.blk HKA.out HTz.out (by decide) (by decide))
     have HFd:=Lib.hid (HQ.out.below (Below.refl _ _).drew)
     have z0 : w10.cell? ⟨w.heap.size,0,none⟩ = some (Pa f):=HWz.out.cell 0
     have z1 : w10.cell? ⟨f,2,none⟩ = some (.map (some m)):=HQ.out.blk.cell 2
     have z2 : w10.cell? ⟨w.heap.size + 1,0,none⟩ = some (.int .i64 sl.1.1):=HSz.out.cell 0
     have z3 : w10.cell? ⟨w.heap.size + 1,1,none⟩ = some (.string sl.1.2):=HSz.out.cell 1
     obtain ⟨n2,x2,y2⟩:=HFd.out.names
     obtain ⟨w20,hrun,hm3,hk3,hs3⟩:=y2.drop slot_enc Tryz.underlying89 sl trivial 0
     have hrun2 : (Builtin.delete_ #[89,96] 0 #[.map (some m),.agg #[.int .i64 sl.1.1,.string sl.1.2]]).run Tryz.prog w10.drew = .ok (.tuple #[]) w20:=hrun
     have hq:=HFd.out.names_ (remK (awayS fs tl wi o).G sl) (fun s i e=>HFd.out.wf s i (remK_ok e)) hk3 (n:=if (nmV (awayS fs tl wi o).G sl).isSome = true then n2 - 1 else n2) (by
      have h1 : n2 ≤ c + 1:=x2
      split <;> omega) (by rw [← nmV_rem]; exact hm3)
     have hkd : KeepF w10 w20:=KeepF.after (Below.refl _ _).drew hq.2
     have HKz:=Lib.hid (KeepF.trans (KeepF.after HB8.out HKA.out) hkd)
     have HW20:=Lib.hid (KeepF.blk hkd HWz.out (by decide) (by decide))
     have HS20:=Lib.hid (KeepF.blk hkd HSz.out (by decide) (by decide))
     have HT20:=Lib.hid (KeepF.blk hkd HTz.out (by decide) (by decide))
     have HQ20:=Lib.hid hq.1
     clear hm3 hk3 hs3 hq y2 hrun hkd
     refine wp_region_quiet_tail 7 (by kernel_rfl) (by kernel_rfl) ?_
     simp only [List.take_succ_cons,List.take_zero,List.drop_succ_cons,List.drop_zero]
     repeat (go_big_quiet_step (fail))
     refine wpQuiet_nil ?_
     clear z0 z1 z2 z3
     go_upto_region 22 with fail
     clear hrun2
     have z0 : w20.cell? ⟨w.heap.size,0,none⟩ = some (Pa f):=HW20.out.cell 0
     have z1 : w20.cell? ⟨w.heap.size + 1,2,none⟩ = some (.int .i64 ino):=HS20.out.cell 2
     have z2 : w20.cell? ⟨w4.heap.size,0,none⟩ = some (.int .i64 wd):=HT20.out.cell 0
     have z3 : w20.cell? ⟨w4.heap.size,1,none⟩ = some (.string wn):=HT20.out.cell 1
     have hP:=Lib.hid (fw_put HQ20.out (names_rem (names_away hn tl wi o) sl) tl htz ino hi (by omega))
     rw [htl1,htl2] at hP
     unfold wkV slotV at hP
     go_wp2_with (
      go_at_call 106
      refine hP.out.mono ?_
      rintro e w21 ⟨⟨er,rfl,hcase⟩,hF21,hKF21⟩
      have HC21:=Lib.hid hcase
      have HF21:=Lib.hid hF21
      have HKF21:=Lib.hid hKF21
      clear hcase hF21 hKF21)
     all_goals go_ret
     all_goals exact ⟨er,_,_,rfl,HY.out er HC21.out,HF21.out.more (by omega),HKz.out.trans HKF21.out⟩
    ·have HY:=Lib.hid (HLR.out 164 fs (.inr (.inl ⟨o,ho,hk,hok,he,rfl,rfl⟩)))
     have HE:=Lib.hid he
     clear he hk hok
     go_wp2_with (
      go_at_call 109
      refine hEm.out.mono ?_
      rintro e w9 ⟨⟨r,rfl,hr⟩,hb9⟩
      obtain rfl : r = false:=Bool.eq_false_iff.2 fun h=>HE.out (hr.1 h)
      have HB9:=Lib.hid hb9
      clear hr hb9)
     all_goals go_ret
     all_goals exact ⟨164,fs,own,rfl,HY.out,(HF8.out.below HB9.out).more (by omega),KeepF.of_below (bl_t HB8.out HB9.out)⟩
   ·have hok' : (o.nd.kind != 2) = true:=by simpa using hok
    have hok2 : (o.nd.kind == 2) = false:=by simpa using hok
    have HY:=Lib.hid (HLR.out 162 fs (.inl ⟨o,ho,hk,hok,rfl,rfl⟩))
    clear hk hok
    go_wp2
    all_goals go_ret
    all_goals exact ⟨162,fs,own,rfl,HY.out,HF8.out.more (by omega),KeepF.of_below HB8.out⟩
 ·have hk' : (a.nd.kind == 2) = false:=by simpa using hk
  have hk2 : (a.nd.kind != 2) = true:=by simpa using hk
  replace HLR:=Lib.hid (fun code fs' hq=>HLR.out code fs' (.inr ⟨fun h=>absurd h hk,hq⟩))
  go_upto_region 14 with fail
  have HB8:=HB6
  clear d0 s2 t0 t1 t2 k0
  have HWz:=Lib.hid (HW6.out)
  have HSz:=Lib.hid (HS6.out)
  have HTz:=Lib.hid (HT6.out)
  have k0 : w7.cell? ⟨(own ino).g,0,none⟩ = some (.int .i64 a.nd.kind):=(HF6.out.node ino a ha).blk.cell 0
  have a0 : w7.cell? ⟨w.heap.size,0,none⟩ = some (Pa f):=HWz.out.cell 0
  have b0 : w7.cell? ⟨w4.heap.size,0,none⟩ = some (.int .i64 wd):=HTz.out.cell 0
  have b1 : w7.cell? ⟨w4.heap.size,1,none⟩ = some (.string wn):=HTz.out.cell 1
  have b2 : w7.cell? ⟨w4.heap.size,2,none⟩ = some (.int .i64 wi):=HTz.out.cell 2
  cases ho : fs.N wi with
  | none=>
   have hv:=HV.out
   rw [ho] at hv
   simp only [Option.map_none,Option.getD_none] at hv
   subst hv
   have HY:=Lib.hid (fun er hcd=>HLR.out er (putG { fs with G:=remK fs.G sl } tl ino) (.inr (.inr (.inr ⟨tl,htl,hcd,.inl ⟨ho,rfl⟩⟩))))
   clear ho hk k0 b0 b1 b2
   go_upto_region 21 with fail
   clear a0
   have HFd:=Lib.hid (HF6.out.below (Below.refl _ _).drew)
   have z0 : w7.cell? ⟨w.heap.size,0,none⟩ = some (Pa f):=HWz.out.cell 0
   have z1 : w7.cell? ⟨f,2,none⟩ = some (.map (some m)):=HF6.out.blk.cell 2
   have z2 : w7.cell? ⟨w.heap.size + 1,0,none⟩ = some (.int .i64 sl.1.1):=HSz.out.cell 0
   have z3 : w7.cell? ⟨w.heap.size + 1,1,none⟩ = some (.string sl.1.2):=HSz.out.cell 1
   obtain ⟨n2,x2,y2⟩:=HFd.out.names
   obtain ⟨w20,hrun,hm3,hk3,hs3⟩:=y2.drop slot_enc Tryz.underlying89 sl trivial 0
   have hrun2 : (Builtin.delete_ #[89,96] 0 #[.map (some m),.agg #[.int .i64 sl.1.1,.string sl.1.2]]).run Tryz.prog w7.drew = .ok (.tuple #[]) w20:=hrun
   have hq:=HFd.out.names_ (remK (fs).G sl) (fun s i e=>HFd.out.wf s i (remK_ok e)) hk3 (n:=if (nmV (fs).G sl).isSome = true then n2 - 1 else n2) (by
    have h1 : n2 ≤ c:=x2
    split <;> omega) (by rw [← nmV_rem]; exact hm3)
   have hkd : KeepF w7 w20:=KeepF.after (Below.refl _ _).drew hq.2
   have HKz:=Lib.hid (KeepF.trans (KeepF.of_below HB8.out) hkd)
   have HW20:=Lib.hid (KeepF.blk hkd HWz.out (by decide) (by decide))
   have HS20:=Lib.hid (KeepF.blk hkd HSz.out (by decide) (by decide))
   have HT20:=Lib.hid (KeepF.blk hkd HTz.out (by decide) (by decide))
   have HQ20:=Lib.hid hq.1
   clear hm3 hk3 hs3 hq y2 hrun hkd
   refine wp_region_quiet_tail 7 (by kernel_rfl) (by kernel_rfl) ?_
   simp only [List.take_succ_cons,List.take_zero,List.drop_succ_cons,List.drop_zero]
   repeat (go_big_quiet_step (fail))
   refine wpQuiet_nil ?_
   clear z0 z1 z2 z3
   go_upto_region 22 with fail
   clear hrun2
   have z0 : w20.cell? ⟨w.heap.size,0,none⟩ = some (Pa f):=HW20.out.cell 0
   have z1 : w20.cell? ⟨w.heap.size + 1,2,none⟩ = some (.int .i64 ino):=HS20.out.cell 2
   have z2 : w20.cell? ⟨w4.heap.size,0,none⟩ = some (.int .i64 wd):=HT20.out.cell 0
   have z3 : w20.cell? ⟨w4.heap.size,1,none⟩ = some (.string wn):=HT20.out.cell 1
   have hP:=Lib.hid (fw_put HQ20.out (names_rem hn sl) tl htz ino hi (by omega))
   rw [htl1,htl2] at hP
   unfold wkV slotV at hP
   go_wp2_with (
    go_at_call 106
    refine hP.out.mono ?_
    rintro e w21 ⟨⟨er,rfl,hcase⟩,hF21,hKF21⟩
    have HC21:=Lib.hid hcase
    have HF21:=Lib.hid hF21
    have HKF21:=Lib.hid hKF21
    clear hcase hF21 hKF21)
   all_goals go_ret
   all_goals exact ⟨er,_,_,rfl,HY.out er HC21.out,HF21.out.more (by omega),HKz.out.trans HKF21.out⟩
  | some o=>
   have hv:=HV.out
   rw [ho] at hv
   simp only [Option.map_some,Option.getD_some,ptrG] at hv
   subst hv
   have l0 : w7.cell? ⟨(own wi).g,0,none⟩ = some (.int .i64 o.nd.kind):=(HF6.out.node wi o ho).blk.cell 0
   by_cases hok : o.nd.kind = 2
   ·have hok' : (o.nd.kind != 2) = false:=by simpa using hok
    have hok2 : (o.nd.kind == 2) = true:=by simpa using hok
    have HY:=Lib.hid (HLR.out 163 fs (.inr (.inr (.inl ⟨o,ho,hk,hok,rfl,rfl⟩))))
    clear hk hok
    go_wp2
    all_goals go_ret
    all_goals exact ⟨163,fs,own,rfl,HY.out,HF6.out.more (by omega),KeepF.of_below HB8.out⟩
   ·have hok' : (o.nd.kind != 2) = true:=by simpa using hok
    have hok2 : (o.nd.kind == 2) = false:=by simpa using hok
    have HY:=Lib.hid (fun er hcd=>HLR.out er (putG { awayS fs tl wi o with G:=remK (awayS fs tl wi o).G sl } tl ino) (.inr (.inr (.inr ⟨tl,htl,hcd,.inr ⟨o,ho,fun h=>absurd h hk,fun _=>hok,rfl⟩⟩))))
    have HAL:=HG.out wi o ho
    have hAw:=Lib.hid (fw_away HF6.out tl wi o ho hwfi ⟨HAL.1,HAL.2.1⟩)
    rw [htl1,htl2] at hAw
    unfold wkV spotC at hAw
    clear hk hok
    go_upto_region 21 with (
     go_at_call 110
     refine hAw.out.mono ?_
     rintro e w10 ⟨rfl,hq,hkf⟩
     have HQ:=Lib.hid hq
     have HKA:=Lib.hid hkf
     clear hq hkf)
    clear k0 a0 b0 b1 b2 l0
    replace HWz:=Lib.hid (KeepF.blk HKA.out HWz.out (by decide) (by decide))
    replace HSz:=Lib.hid (KeepF.blk HKA.out HSz.out (by decide) (by decide))
    replace HTz:=Lib.hid (KeepF.blk HKA.out HTz.out (by decide) (by decide))
    have HFd:=Lib.hid (HQ.out.below (Below.refl _ _).drew)
    have z0 : w10.cell? ⟨w.heap.size,0,none⟩ = some (Pa f):=HWz.out.cell 0
    have z1 : w10.cell? ⟨f,2,none⟩ = some (.map (some m)):=HQ.out.blk.cell 2
    have z2 : w10.cell? ⟨w.heap.size + 1,0,none⟩ = some (.int .i64 sl.1.1):=HSz.out.cell 0
    have z3 : w10.cell? ⟨w.heap.size + 1,1,none⟩ = some (.string sl.1.2):=HSz.out.cell 1
    obtain ⟨n2,x2,y2⟩:=HFd.out.names
    obtain ⟨w20,hrun,hm3,hk3,hs3⟩:=y2.drop slot_enc Tryz.underlying89 sl trivial 0
    have hrun2 : (Builtin.delete_ #[89,96] 0 #[.map (some m),.agg #[.int .i64 sl.1.1,.string sl.1.2]]).run Tryz.prog w10.drew = .ok (.tuple #[]) w20:=hrun
    have hq:=HFd.out.names_ (remK (awayS fs tl wi o).G sl) (fun s i e=>HFd.out.wf s i (remK_ok e)) hk3 (n:=if (nmV (awayS fs tl wi o).G sl).isSome = true then n2 - 1 else n2) (by
     have h1 : n2 ≤ c + 1:=x2
     split <;> omega) (by rw [← nmV_rem]; exact hm3)
    have hkd : KeepF w10 w20:=KeepF.after (Below.refl _ _).drew hq.2
    have HKz:=Lib.hid (KeepF.trans (KeepF.after HB8.out HKA.out) hkd)
    have HW20:=Lib.hid (KeepF.blk hkd HWz.out (by decide) (by decide))
    have HS20:=Lib.hid (KeepF.blk hkd HSz.out (by decide) (by decide))
    have HT20:=Lib.hid (KeepF.blk hkd HTz.out (by decide) (by decide))
    have HQ20:=Lib.hid hq.1
    clear hm3 hk3 hs3 hq y2 hrun hkd
    refine wp_region_quiet_tail 7 (by kernel_rfl) (by kernel_rfl) ?_
    simp only [List.take_succ_cons,List.take_zero,List.drop_succ_cons,List.drop_zero]
    repeat (go_big_quiet_step (fail))
    refine wpQuiet_nil ?_
    clear z0 z1 z2 z3
    go_upto_region 22 with fail
    clear hrun2
    have z0 : w20.cell? ⟨w.heap.size,0,none⟩ = some (Pa f):=HW20.out.cell 0
    have z1 : w20.cell? ⟨w.heap.size + 1,2,none⟩ = some (.int .i64 ino):=HS20.out.cell 2
    have z2 : w20.cell? ⟨w4.heap.size,0,none⟩ = some (.int .i64 wd):=HT20.out.cell 0
    have z3 : w20.cell? ⟨w4.heap.size,1,none⟩ = some (.string wn):=HT20.out.cell 1
    have hP:=Lib.hid (fw_put HQ20.out (names_rem (names_away hn tl wi o) sl) tl htz ino hi (by omega))
    rw [htl1,htl2] at hP
    unfold wkV slotV at hP
    go_wp2_with (
     go_at_call 106
     refine hP.out.mono ?_
     rintro e w21 ⟨⟨er,rfl,hcase⟩,hF21,hKF21⟩
     have HC21:=Lib.hid hcase
     have HF21:=Lib.hid hF21
     have HKF21:=Lib.hid hKF21
     clear hcase hF21 hKF21)
    all_goals go_ret
    all_goals exact ⟨er,_,_,rfl,HY.out er HC21.out,HF21.out.more (by omega),HKz.out.trans HKF21.out⟩
end Go.Proofs.YtpboohfofodeeaaGreatDoor
/- files: may (conditions: none). -/
namespace Go.Proofs.YtpboohfofodeeaaGreatDoor
open Go.RowKit Go.Maps
/-- An operation. -/
structure OpA where
 kind : Int
 path : ByteArray
 dest : ByteArray
 name : ByteArray
 off : Int
 n : Int
 data : ByteArray
def OpA.cs (o : OpA) : Array Value:=#[.int .i64 o.kind,.string o.path,.string o.dest,.string o.name,.int .i64 o.off,.int .i64 o.n,.string o.data]
def OpA.val (o : OpA) : Value:=.agg o.cs
theorem oc7 {w : World} {b : Nat} {t : TypeId} {o : OpA} (h : Blk w b t o.cs) : w.cell? ⟨b,0,none⟩ = some (.int .i64 o.kind) ∧ w.cell? ⟨b,1,none⟩ = some (.string o.path) ∧ w.cell? ⟨b,2,none⟩ = some (.string o.dest) ∧ w.cell? ⟨b,3,none⟩ = some (.string o.name) ∧ w.cell? ⟨b,4,none⟩ = some (.int .i64 o.off) ∧ w.cell? ⟨b,5,none⟩ = some (.int .i64 o.n) ∧ w.cell? ⟨b,6,none⟩ = some (.string o.data):=
 ⟨h.cell 0,h.cell 1,h.cell 2,h.cell 3,h.cell 4,h.cell 5,h.cell 6⟩
theorem sc3 {w : World} {b : Nat} {t : TypeId} {d i : Int} {n : ByteArray} (h : Blk w b t #[.int .i64 d,.string n,.int .i64 i]) : w.cell? ⟨b,0,none⟩ = some (.int .i64 d) ∧ w.cell? ⟨b,1,none⟩ = some (.string n) ∧ w.cell? ⟨b,2,none⟩ = some (.int .i64 i):=
 ⟨h.cell 0,h.cell 1,h.cell 2⟩
def mayK (kind : Int) (sd : Int) (n : Int) (tb : Bool) (dz : Nat) (nb : Bool) : Int:=
 if kind = 4 ∨ kind = 7 then sd
 else if kind = 1 ∨ kind = 2 ∨ kind = 16 then (if n < 0 ∨ 4095 < n then 1 else 0)
 else if kind = 3 then (if tb = true then 0 else 1)
 else if kind = 12 ∧ 120 < dz then 1
 else if kind = 12 ∨ kind = 13 ∨ kind = 14 then (if nb = true then 0 else 120)
 else 0
/-- The error of an operation by itself. -/
def mayS (o : OpA) : Int:=
 if o.kind < 1 ∨ 21 < o.kind then 1
 else if (splitP o.path).2 ≠ 0 then (splitP o.path).2
 else mayK o.kind (splitP o.dest).2 o.n (targetB o.data) o.data.size (nameB o.name)
structure OpSmall (o : OpA) : Prop where
 path : o.path.size ≤ 4294967280
 dest : o.dest.size ≤ 4294967280
 name : o.name.size ≤ 4294967280
 data : o.data.size ≤ 4294967280
theorem ret_int {w w' : World} {x y : Int} (h : x = y) (hb : Below w.heap.size w w') : (Ending.returned (.int .i64 x) = .returned (.int .i64 y)) ∧ Below w.heap.size w w':=⟨by rw [h],hb⟩
set_option maxRecDepth 100000 in
set_option maxHeartbeats 8000000 in
theorem fw_may (o : OpA) (w : World) (hl : LibV w) (hz : OpSmall o) :
 Calls Tryz.prog 29 #[o.val] w fun e w'=>e = .returned (.int .i64 (mayS o)) ∧ Below w.heap.size w w':=by
 obtain ⟨kind,pa,de,na,off,n,da⟩:=o
 obtain ⟨z1,z2,z3,z4⟩:=hz
 simp only at z1 z2 z3 z4
 have hb0 : Below w.heap.size w (w.alloc (.cells #[.int .i64 kind,.string pa,.string de,.string na,.int .i64 off,.int .i64 n,.string da] 24)):=(Below.refl _ _).alloc (Nat.le_refl _) _
 have hO:=Blk.new w 24 #[.int .i64 kind,.string pa,.string de,.string na,.int .i64 off,.int .i64 n,.string da]
 have HL:=Lib.hid (hl.below hb0)
 have hv : (⟨kind,pa,de,na,off,n,da⟩ : OpA).val = .agg #[.int .i64 kind,.string pa,.string de,.string na,.int .i64 off,.int .i64 n,.string da]:=rfl
 rw [hv]
 have HB0:=Lib.hid hb0
 have HM:=Lib.hid (rfl : mayS ⟨kind,pa,de,na,off,n,da⟩ = mayS ⟨kind,pa,de,na,off,n,da⟩)
 conv at HM=>arg 1; rhs; unfold mayS
 simp only at HM
 generalize mayS ⟨kind,pa,de,na,off,n,da⟩ = r at *
 have HP:=Lib.hid (fun W hW=>pt_split pa W hW (by omega))
 have HD:=Lib.hid (fun W hW=>pt_split de W hW (by omega))
 have HT:=Lib.hid (fun W=>pt_target da W (by omega))
 have HN:=Lib.hid (fun W=>pt_name na W (by omega))
 generalize splitP pa = sp at HP HM
 generalize splitP de = sd at HD HM
 generalize targetB da = tb at HT HM
 generalize nameB na = nb at HN HM
 obtain ⟨spl,spc⟩:=sp
 obtain ⟨sdl,sdc⟩:=sd
 simp only at HM
 clear hv hb0 hl
 go_enter Tryz.func29,Tryz.ntmps29
 go_upto_region 1 with fail
 have HO:=Lib.hid hO
 clear hO
 generalize w.alloc (.cells #[.int .i64 kind,.string pa,.string de,.string na,.int .i64 off,.int .i64 n,.string da] 24) = w1 at *
 have c0 : w1.cell? ⟨w.heap.size,0,none⟩ = some (.int .i64 kind):=HO.out.cell 0
 have c1 : w1.cell? ⟨w.heap.size,1,none⟩ = some (.string pa):=HO.out.cell 1
 by_cases hlo : kind < 1
 ·have hm:=HM.out
  rw [if_pos (.inl hlo)] at hm
  have HY:=Lib.hid hm
  clear hm
  go_wp2
  go_ret
  exact ret_int HY.out.symm HB0.out
 have hlo' : ¬ kind < 1:=hlo
 by_cases hhi : 21 < kind
 ·have hm:=HM.out
  rw [if_pos (.inr hhi)] at hm
  have HY:=Lib.hid hm
  clear hm
  go_wp2
  go_ret
  exact ret_int HY.out.symm HB0.out
 have hm:=HM.out
 rw [if_neg (by omega)] at hm
 replace HM:=Lib.hid hm
 clear hm
 by_cases hsc : spc = 0
 case neg=>
  have hsc' : (spc != 0) = true:=by simpa using hsc
  have hm:=HM.out
  rw [if_pos hsc] at hm
  have HY:=Lib.hid hm
  clear hm hsc
  go_wp2_with (go_at_call 50; refine (HP.out _ HL.out).mono ?_; rintro e w2 ⟨⟨A0,n0,rfl,hn0⟩,hb2⟩; have HB2:=Lib.hid hb2; clear hn0 hb2)
  go_ret
  exact ret_int HY.out.symm (bl_t HB0.out HB2.out)
 have hm:=HM.out
 rw [if_neg (fun h=>h hsc)] at hm
 subst hsc
 replace HM:=Lib.hid hm
 clear hm
 go_upto_region 6 with (go_at_call 50; refine (HP.out _ HL.out).mono ?_; rintro e w2 ⟨⟨A0,n0,rfl,hn0⟩,hb2⟩; have HB2:=Lib.hid hb2; clear hn0 hb2)
 replace HB0:=Lib.hid (bl_t HB0.out HB2.out)
 have HO2:=Lib.hid (blk_below HO.out HB2.out)
 replace HL:=Lib.hid (HL.out.below HB2.out)
 clear c0 c1 HO HB2
 have c0 : w2.cell? ⟨w.heap.size,0,none⟩ = some (.int .i64 kind):=HO2.out.cell 0
 have c2 : w2.cell? ⟨w.heap.size,2,none⟩ = some (.string de):=HO2.out.cell 2
 have c3 : w2.cell? ⟨w.heap.size,3,none⟩ = some (.string na):=HO2.out.cell 3
 have c5 : w2.cell? ⟨w.heap.size,5,none⟩ = some (.int .i64 n):=HO2.out.cell 5
 have c6 : w2.cell? ⟨w.heap.size,6,none⟩ = some (.string da):=HO2.out.cell 6
 have hcs : (kind = 4 ∨ kind = 7 ∨ kind = 1 ∨ kind = 2 ∨ kind = 16 ∨ kind = 3 ∨ kind = 12 ∨ kind = 13 ∨ kind = 14) ∨ (kind == 4) = false ∧ (kind == 7) = false ∧ (kind == 1) = false ∧ (kind == 2) = false ∧ (kind == 16) = false ∧ (kind == 3) = false ∧ (kind == 12) = false ∧ (kind == 13) = false ∧ (kind == 14) = false:=by
  simp only [beq_eq_false_iff_ne]
  omega
 clear hlo hlo' hhi
 rcases hcs with (rfl | rfl | rfl | rfl | rfl | rfl | rfl | rfl | rfl) | ⟨i1,i2,i3,i4,i5,i6,i7,i8,i9⟩
 case inr=>
  have hm : r = 0:=by
   rw [HM.out]
   simp only [beq_eq_false_iff_ne] at i1 i2 i3 i4 i5 i6 i7 i8 i9
   unfold mayK
   simp [i1,i2,i3,i4,i5,i6,i7,i8,i9]
  have HY:=Lib.hid hm
  clear hm
  go_wp2
  go_ret
  exact ret_int HY.out.symm HB0.out
 all_goals go_wp2_with (first
  |(go_at_call 50; refine (HD.out _ HL.out).mono ?_; rintro e w3 ⟨⟨A0,n0,rfl,hn0⟩,hb3⟩; have HB3:=Lib.hid (bl_t HB0.out hb3); clear hn0 hb3)
  |(go_at_call 51; refine (HT.out _).mono ?_; rintro e w3 ⟨rfl,rfl⟩; have HB3:=HB0)
  |(go_at_call 52; refine (HN.out _).mono ?_; rintro e w3 ⟨rfl,hb3⟩; have HB3:=Lib.hid (bl_t HB0.out hb3); clear hb3))
 all_goals go_ret
 all_goals first
  | exact ret_int (by rw [HM.out]; clear HM HD HP HT HN HL; unfold mayK; cases tb <;> cases nb <;> simp_all <;> omega) HB3.out
  | exact ret_int (by rw [HM.out]; clear HM HD HP HT HN HL; unfold mayK; cases tb <;> cases nb <;> simp_all <;> omega) HB0.out
end Go.Proofs.YtpboohfofodeeaaGreatDoor
/- slices.Sort at texts (conditions: none). -/
namespace Go.Proofs.YtpboohfofodeeaaGreatDoor
open Go.RowKit Go.Maps Go.Shelf
open Go.Sort hiding Below
/-- Texts in order. -/
def sortT (l : List ByteArray) : List ByteArray:=((l.map fun s=>s.data.toList).mergeSort fun x y=>decide (x ≤ y)).map fun x=>⟨x.toArray⟩
theorem sortT_length (l : List ByteArray) : (sortT l).length = l.length:=by simp [sortT]
theorem texts_holds {W : World} {base g n c : Nat} {l : List ByteArray} (h : W.ownsRow base 9 1 (.slice (some ⟨g,0,none⟩) n c) n (strV l)) (hn : n = l.length) : Holds encStr W g 0 (l.map fun s=>s.data.toList).toArray:=by
 subst hn
 rcases h.2 with ⟨h0,_⟩ | ⟨g',cap,cur,hv,_,hb,h1,_,h3,h4⟩
 ·cases h0
 ·cases hv
  intro j hj
  have hj' : j < l.length:=by simpa using hj
  refine ⟨?_,by simp [World.frozen?,hb]⟩
  have e1 : (cur.toList.take (l.length * 1))[j]? = (strV l)[j]?:=by rw [h4]
  rw [List.getElem?_take_of_lt (by omega),Array.getElem?_toList] at e1
  rw [getElem!_pos _ j hj]
  simp only [World.cell?,hb,Nat.zero_add]
  rw [e1]
  simp [strV,List.getElem?_eq_getElem hj',encStr]
theorem texts_sorted {W : World} {base g n c q : Nat} {os : Array Obj} {l : List ByteArray} {ss : List (List UInt8)} (h : W.ownsRow base 9 1 (.slice (some ⟨g,0,none⟩) n c) n (strV l)) (hn : n = l.length) (hl : ss.length = l.length) :
 (grow (putRow encStr (Sort.ahead W q) g 0 ss.toArray) os).ownsRow base 9 1 (.slice (some ⟨g,0,none⟩) n c) n (strV (ss.map fun x=>⟨x.toArray⟩)) ∧ Keep (fun i=>g = i) W (grow (putRow encStr (Sort.ahead W q) g 0 ss.toArray) os):=by
 subst hn
 rcases h.2 with ⟨h0,_⟩ | ⟨g',cap,cur,hv,hbase,hb,h1,h2,h3,h4⟩
 ·cases h0
 ·cases hv
  have hg:=lt_of_heap hb
  have hb' : (grow (putRow encStr (Sort.ahead W q) g 0 ss.toArray) os).heap[g]? = some (.cells (putCells encStr 0 ss.toArray cur) 9 (0,0)):=by
   rw [heap_grow_old _ _ (by simpa using hg)]
   simp [putRow,mapBlock,Sort.ahead,Array.getElem?_modify,hb,onCells]
  refine ⟨⟨by simp [strV,hl],.inr ⟨g,c,_,rfl,hbase,hb',h1,h2,by simp [putCells,h3],?_⟩⟩,⟨rfl,rfl,rfl,?_,fun k hk' hne=>?_⟩⟩
  ·apply List.ext_getElem?
   intro j
   by_cases hj : j < l.length
   ·have hjs : j < ss.toArray.size:=by simp; omega
    have hjc : j < cur.size:=by rw [h3]; omega
    rw [List.getElem?_take_of_lt (by omega),Array.getElem?_toList]
    simp only [putCells,Array.getElem?_mapIdx,Array.getElem?_eq_getElem hjc,Option.map_some]
    rw [if_pos ⟨Nat.zero_le _,by omega⟩,Nat.sub_zero,getElem!_pos ss.toArray j hjs]
    have hj2 : j < ss.length:=by omega
    simp [strV,List.getElem?_eq_getElem hj2,encStr]
   ·rw [List.getElem?_eq_none (by simp; omega),List.getElem?_eq_none (by simp [strV]; omega)]
  ·simp
  ·rw [heap_grow_old _ _ (by simpa using hk')]
   simp [putRow,mapBlock,Sort.ahead,Array.getElem?_modify,hne]
set_option maxRecDepth 100000 in
theorem sort_none (w : World) : Calls Tryz.prog 152 #[.slice none 0 0,.int .i64 0,.int .i64 0] w fun e w'=>e = .returned (.tuple #[]) ∧ w' = w:=by
 go_enter Tryz.func152,Tryz.ntmps152
 go_wp2
 go_loopw [6] (fun i wr=>i = .int .i64 1 ∧ wr = w) (fun _ _=>0)
 case atStart=>exact ⟨rfl,rfl⟩
 case round=>
  obtain ⟨rfl,rfl⟩:=hrel
  go_wp2
  go_end0
  exact ⟨rfl,rfl⟩
set_option maxRecDepth 100000 in
theorem pdq_none (k : Int) (w : World) : Calls Tryz.prog 91 #[.slice none 0 0,.int .i64 0,.int .i64 0,.int .i64 k] w fun e w'=>e = .returned (.tuple #[]) ∧ w' = w:=by
 go_enter Tryz.func91,Tryz.ntmps91
 go_wp2
 go_loopw [1,2,3] (fun a b _ wr=>a = .int .i64 0 ∧ b = .int .i64 0 ∧ wr = w) (fun _ _ _ _=>0)
 case atStart=>exact ⟨rfl,rfl,rfl⟩
 case round=>
  obtain ⟨rfl,rfl,rfl⟩:=hrel
  go_wp2_with (go_at_call 152; refine (sort_none _).mono ?_; rintro e w' ⟨rfl,rfl⟩)
  refine bodyPost_ret (v:=.tuple #[]) (results_none rfl _ _ _) rfl ?_
  exact ⟨rfl,rfl⟩
set_option maxRecDepth 100000 in
theorem sort_nil (w : World) : Calls Tryz.prog 44 #[.slice none 0 0] w fun e w'=>e = .returned (.tuple #[]) ∧ w' = w:=by
 have hLen:=Lib.hid (Tryz.bits_Len 0 w (by decide) (by decide))
 go_enter Tryz.func44,Tryz.ntmps44
 go_wp2_with (first
  |(go_at_call 92; refine hLen.out.mono ?_; rintro e w' ⟨rfl,rfl⟩)
  |(go_at_call 91; refine (pdq_none _ _).mono ?_; rintro e w' ⟨rfl,rfl⟩))
 go_end0
 exact ⟨rfl,rfl⟩
theorem sort_texts {W : World} {base n : Nat} {v : Value} {l : List ByteArray} (hown : W.ownsRow base 9 1 v n (strV l)) (hlim : n ≤ 1099511627776) :
 Calls Tryz.prog 44 #[v] W fun e w'=>e = .returned (.tuple #[]) ∧ w'.ownsRow base 9 1 v n (strV (sortT l)) ∧ Keep (fun i=>v.ownBlock = some i) W w':=by
 have hn : n = l.length:=by have:=hown.1; simp [strV] at this; omega
 rcases hown.2 with ⟨rfl,h0⟩ | ⟨g,c,cur,rfl,hbase,hb,_⟩
 ·have hl : l = []:=List.length_eq_zero_iff.1 (by omega)
  subst hl
  refine (sort_nil W).mono ?_
  rintro e w' ⟨he,rfl⟩
  exact ⟨he,by rw [show sortT [] = [] by simp [sortT]]; exact hown,Keep.refl _ _⟩
 ·have hH:=texts_holds hown hn
  have hcon:=Tryz.slices_Sort_string g 0 c (l.map fun s=>s.data.toList) W hH (lt_of_heap hb) (by simp; omega)
  rw [show (l.map fun s=>s.data.toList).length = n by simp [hn]] at hcon
  refine Calls.mono hcon fun e w' h=>?_
  obtain ⟨he,q,os,rfl⟩:=h
  have hr:=texts_sorted (q:=q) (os:=os) hown hn (ss:=(l.map fun s=>s.data.toList).mergeSort fun x y=>decide (x ≤ y)) (by simp)
  exact ⟨he,hr.1,hr.2.mono fun i _ h=>by simp [Value.ownBlock,h]⟩
end Go.Proofs.YtpboohfofodeeaaGreatDoor
