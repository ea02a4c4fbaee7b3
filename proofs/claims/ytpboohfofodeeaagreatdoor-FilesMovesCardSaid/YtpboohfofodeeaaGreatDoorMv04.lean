/- ref12.Target, ref14.Right and Decode, of an inode that is right (conditions: none). -/
import Derived.Test.YtpboohfofodeeaaGreatDoorMv03
import Derived.Test.YtpboohfofodeeaaGreatDoorM36
import Derived.Test.YtpboohfofodeeaaGreatDoorM08
import Derived.Test.YtpboohfofodeeaaGreatDoorM12
namespace Go.Proofs.YtpboohfofodeeaaGreatDoor
open Go.RowKit Go.Maps
theorem target_no {s:ByteArray} (h:targetB s=true):1≤s.size∧s.size≤100∧∀ i,i < s.size→bt s i≠0:=by
 unfold targetB at h
 simp only [Bool.and_eq_true,decide_eq_true_eq,Bool.not_eq_true',decide_eq_false_iff_not] at h
 obtain ⟨h1,h2,h3⟩:=h
 refine ⟨?_,h2,fun i hi hz=>?_⟩
 ·rw [toList_eq] at h1
  have:s.data.toList≠[]:=fun e=>by rw [e] at h1; cases h1
  have:=List.length_pos_iff.2 this
  rw [Array.length_toList] at this
  exact this
 ·have hn:Lib.indexByte s.data.toList 0 = -1:=by
   have:=Lib.indexByte_ge s.data.toList 0
   omega
  refine Lib.indexByte_none hn i ?_
  have hi':i < s.data.size:=hi
  rw [Array.getElem?_toList,Array.getElem?_eq_getElem hi']
  rw [bt_at s i hi] at hz
  have h0:(s[i]'hi).toNat=0:=by omega
  have:s.data[i]'hi'=0:=UInt8.toNat_inj.1 (show (s[i]'hi).toNat=(0:UInt8).toNat from h0)
  rw [this]
theorem rf_target {s:ByteArray} (h:targetB s=true) (w:World):Calls Tryz.prog 73 #[.string s] w fun e w'=>e=.returned (.bool true)∧w'=w:=by
 obtain ⟨h1,h2,h3⟩:=target_no h
 have HN:=Lib.hid h3
 clear h h3
 go_enter Tryz.func73,Tryz.ntmps73
 go_upto_region 2 with fail
 go_loop [3] (fun i=>∃ j:Nat,j≤s.size∧i=.int .i64 j) (fun i=>s.size - (intOf i).toNat)
 case atStart=>exact ⟨0,by omega,rfl⟩
 case round=>
  obtain ⟨j,hj,rfl⟩:=hrel
  by_cases hlt:j < s.size
  ·have hix:=ix_string s j hlt
   have hb:=HN.out j hlt
   generalize bt s j=b at hix hb
   have hb':(b == 0)=false:=by simpa using hb
   clear hb
   go_wp2
   go_round
   case rel=>exact ⟨j+1,by omega,by go_num⟩
   case measure=>simp [intOf]; omega
  ·have hd:decide (1≤(s.size:Int))=true:=by simp; omega
   have hd2:decide ((s.size:Int)≤100)=true:=by simp; omega
   go_wp2
   go_ret
   exact ⟨rfl,rfl⟩
set_option maxRecDepth 100000 in
set_option maxHeartbeats 4000000 in
theorem rf_nodeRight {n:ND} (h:n.right) (w:World):Calls Tryz.prog 90 #[n.val] w fun e w'=>e=.returned (.bool true)∧Below w.heap.size w w':=by
 obtain ⟨kind,mode,time,links,size,target⟩:=n
 have hb0:Below w.heap.size w (w.alloc (.cells #[.int .i64 kind,.int .i64 mode,.int .i64 time,.int .i64 links,.int .i64 size,.string target] 34)):=(Below.refl _ _).alloc (Nat.le_refl _) _
 have HB0:=Lib.hid hb0
 have hB:=Blk.new w 34 #[.int .i64 kind,.int .i64 mode,.int .i64 time,.int .i64 links,.int .i64 size,.string target]
 obtain ⟨c0,c1,c2,c3,c4,c5⟩:_∧_∧_∧_∧_∧_:=⟨hB.cell 0,hB.cell 1,hB.cell 2,hB.cell 3,hB.cell 4,hB.cell 5⟩
 simp only [List.getElem?_toArray,List.getElem?_cons_zero,List.getElem?_cons_succ] at c0 c1 c2 c3 c4 c5
 clear hb0 hB
 obtain ⟨l1,l2,m1,m2,h⟩:=h
 simp only at l1 l2 m1 m2 h
 unfold ND.val ND.cs
 simp only
 rcases h with ⟨rfl,z1,z2,tz⟩ | ⟨rfl,rfl,rfl,tz⟩ | ⟨rfl,rfl,ht⟩
 ·have he:target.toList.isEmpty=true:=by
   rw [toList_eq,List.isEmpty_iff,← List.length_eq_zero_iff,Array.length_toList]
   exact tz
  go_enter Tryz.func90,Tryz.ntmps90
  go_wp2
  go_ret
  exact ⟨by simp_all,HB0.out⟩
 ·have he:target.toList.isEmpty=true:=by
   rw [toList_eq,List.isEmpty_iff,← List.length_eq_zero_iff,Array.length_toList]
   exact tz
  go_enter Tryz.func90,Tryz.ntmps90
  go_wp2
  go_ret
  exact ⟨by simp_all,HB0.out⟩
 ·have HT:=Lib.hid (fun W=>rf_target ht W)
  clear ht
  go_enter Tryz.func90,Tryz.ntmps90
  go_wp2_with (
   go_at_call 73
   refine (HT.out _).mono ?_
   rintro e w' ⟨rfl,rfl⟩)
  go_ret
  exact ⟨rfl,HB0.out⟩
/-- Under way in Decode: the answer's block, the reader. -/
structure RdcAt (w wx:World) (r:Nat) (u:ByteArray):Prop where
 hr0:w.heap.size < r
 rd:Rg wx r u 0
 z:Blk wx w.heap.size 34 zeroND.cs
 bl:Below w.heap.size w wx
theorem RdcAt.keep {w wx wy:World} {r:Nat} {u u':ByteArray} (h:RdcAt w wx r u) (hr:Rg wy r u' 0) (hk:Keep (fun i=>i=r) wx wy):RdcAt w wy r u':=
 ⟨h.hr0,hr,h.z.keep hk (by have:=h.hr0; omega),below_keep' h.bl (Nat.le_of_lt h.hr0) hk⟩
theorem rdc_results {tm:Array Value} {W:World} {b:Nat} {n:ND} {x:Int} (h2:tm.getD 2 undef=.pointer (some ⟨b,0,none⟩)) (h3:tm.getD 3 undef=.int .i64 x) (hB:Blk W b 34 n.cs) :
 (results Tryz.f41 tm).run Tryz.prog W=.ok (.tuple #[n.val,.int .i64 x]) W:=by
 obtain ⟨c0,c1,c2,c3,c4,c5⟩:=nd_cells hB
 unfold ND.val ND.cs
 clear hB
 rw [Array.getD_eq_getD_getElem?] at h2 h3
 simp [results,Tryz.results41,go_sem, *]
theorem enc_parts (n:ND):encS n=encH n++(if n.kind=1 then shS n.size else if n.kind=3 then shS n.target.size++n.target else ⟨#[]⟩):=by
 unfold encS
 split
 ·rfl
 ·split
  ·rfl
  ·exact (app_nil _).symm
set_option maxRecDepth 100000 in
set_option maxHeartbeats 64000000 in
theorem rf_decode {n:ND} (h:n.right) (ht : -9223372036854775808≤n.time∧n.time≤9223372036854775807) (hs:(encS n).size≤140737488351232) (w:World) :
 Calls Tryz.prog 41 #[.string (encS n)] w fun e w'=>e=.returned (.tuple #[n.val,.int .i64 0])∧Below w.heap.size w w':=by
 obtain ⟨r1,r2,r3,r4⟩:=head_read h (if n.kind=1 then shS n.size else if n.kind=3 then shS n.target.size++n.target else ⟨#[]⟩)
 rw [← enc_parts] at r1 r2 r3 r4
 have hze:(encH n).size≤(encS n).size:=by rw [enc_parts,ByteArray.size_append]; omega
 have hz4:(encH n).size=1+(shS n.mode).size+8+(shS n.links).size:=by
  unfold encH
  rw [ByteArray.size_append,ByteArray.size_append,ByteArray.size_append,strOfNums_size,fix8_size]
  rfl
 have hr:=node_read h ht
 unfold decRaw at hr
 simp only [r1,r2,r3,r4] at hr
 obtain ⟨s,hS⟩:∃ s,s=encS n:=⟨_,rfl⟩
 rw [← hS] at r1 r2 r3 r4 hr hze hs ⊢
 have HS:=Lib.hid hS
 clear hS
 have HC1:Hid (∀ (wz:World) (r:Nat),Rg wz r s 0→Calls Tryz.prog 87 #[Pa r] wz (RgCall wz r (.int .u8 n.kind) (tl s 1) 0)):=Lib.hid fun wz r h=>by
  have:=rg_byte (k:=0) (e0:=0) (by rw [tl_zero]; exact h) (Nat.zero_le _) hs
  rw [r1] at this
  exact this
 have HC2:Hid (∀ (wz:World) (r:Nat),Rg wz r (tl s 1) 0→Calls Tryz.prog 88 #[Pa r] wz (RgCall wz r (.int .u64 n.mode) (tl s (1+(shS n.mode).size)) 0)):=Lib.hid fun wz r h=>by
  have:=rg_short h (by omega) hs (by rw [r2])
  rw [r2] at this
  exact this
 have HC3:Hid (∀ (wz:World) (r:Nat),Rg wz r (tl s (1+(shS n.mode).size)) 0→Calls Tryz.prog 83 #[Pa r] wz (RgCall wz r (.int .u64 (IntKind.u64.wrap n.time)) (tl s (1+(shS n.mode).size+8)) 0)):=Lib.hid fun wz r h=>by
  have:=rg_fixed h (by omega) hs
  rw [r3] at this
  exact this
 have HC4:Hid (∀ (wz:World) (r:Nat),Rg wz r (tl s (1+(shS n.mode).size+8)) 0→Calls Tryz.prog 88 #[Pa r] wz (RgCall wz r (.int .u64 n.links) (tl s (encH n).size) 0)):=Lib.hid fun wz r h=>by
  have:=rg_short h (by omega) hs (by rw [r4])
  rw [r4] at this
  exact this
 have HE:Hid (∀ (wz:World) (r:Nat),Rg wz r (tl s s.size) 0→Calls Tryz.prog 86 #[Pa r] wz fun e w'=>e=.returned (.int .i64 0)∧w'=wz):=Lib.hid fun wz r h=>by
  have:=rg_end h (Nat.le_refl _)
  rw [if_pos rfl,if_neg (Nat.lt_irrefl _)] at this
  exact this
 have HCk:Hid (∀ W,Calls Tryz.prog 90 #[n.val] W fun e w'=>e=.returned (.bool true)∧Below W.heap.size W w'):=Lib.hid fun W=>rf_nodeRight h W
 have htw:=wrap_time ht
 have h5:=h.2.2.2.2
 have HB:Hid (1≤n.links∧n.links≤1099511627776∧0≤n.mode∧n.mode≤4095):=Lib.hid ⟨h.1,h.2.1,h.2.2.1,h.2.2.2.1⟩
 have hl:IntKind.i64.wrap n.links=n.links:=by rw [IntKind.wrap_i64]; have:=HB.out; omega
 have hm:IntKind.i64.wrap n.mode=n.mode:=by rw [IntKind.wrap_i64]; have:=HB.out; omega
 clear r1 r2 r3 r4 hr h ht
 obtain ⟨kd,md,tm,lk,sz,tg⟩:=n
 simp only at *
 have q6:decide (md > 4095)=false:=by have:=HB.out; simp; omega
 have q8:decide (lk > 1099511627776)=false:=by have:=HB.out; simp; omega
 have hkw:IntKind.i64.wrap kd=kd:=by rw [IntKind.wrap_i64]; rcases h5 with ⟨e,_⟩ | ⟨e,_⟩ | ⟨e,_⟩ <;> omega
 go_enter Tryz.func41,Tryz.ntmps41
 go_upto_region 2 with fail
 have HA:Hid (RdcAt w ((w.alloc (.cells #[.int .i64 0,.int .i64 0,.int .i64 0,.int .i64 0,.int .i64 0,.string ⟨#[]⟩] 34)).alloc (.cells #[.string s,.int .i64 0] 153)) (w.heap.size+1) s):=Lib.hid ⟨by omega,by
  have:=Blk.new (w.alloc (.cells #[.int .i64 0,.int .i64 0,.int .i64 0,.int .i64 0,.int .i64 0,.string ⟨#[]⟩] 34)) 153 #[.string s,.int .i64 0]
  simpa [Rg] using this,(Blk.new w 34 zeroND.cs).alloc _,((Below.refl _ _).alloc (Nat.le_refl _) _).alloc (by simp) _⟩
 generalize (w.alloc (.cells #[.int .i64 0,.int .i64 0,.int .i64 0,.int .i64 0,.int .i64 0,.string ⟨#[]⟩] 34)).alloc (.cells #[.string s,.int .i64 0] 153)=w1 at *
 obtain ⟨r,hrr⟩:∃ r,r=w.heap.size+1:=⟨_,rfl⟩
 rw [← hrr] at HA ⊢
 clear hrr
 go_wp2_with fail
 refine (HC1.out _ _ HA.out.rd).mono ?_
 rintro e w2 ⟨rfl,hr2,hk⟩
 have HA:=Lib.hid (HA.out.keep hr2 hk)
 clear hr2 hk HC1
 go_wp2_with fail
 refine (HC2.out _ _ HA.out.rd).mono ?_
 rintro e w3 ⟨rfl,hr2,hk⟩
 have HA:=Lib.hid (HA.out.keep hr2 hk)
 clear hr2 hk HC2
 go_wp2_with fail
 refine (HC3.out _ _ HA.out.rd).mono ?_
 rintro e w4 ⟨rfl,hr2,hk⟩
 have HA:=Lib.hid (HA.out.keep hr2 hk)
 clear hr2 hk HC3
 go_wp2_with fail
 refine (HC4.out _ _ HA.out.rd).mono ?_
 rintro e w5 ⟨rfl,hr2,hk⟩
 have HA:=Lib.hid (HA.out.keep hr2 hk)
 clear hr2 hk HC4
 rcases h5 with ⟨rfl,z0,z1,tz⟩ | ⟨rfl,rfl,rfl,tz⟩ | ⟨rfl,rfl,tb⟩
 ·have r5:shortS s (encH ⟨1,md,tm,lk,sz,tg⟩).size 0=(sz,s.size,0):=by
   have:=short_read (A:=encH ⟨1,md,tm,lk,sz,tg⟩) (R:=⟨#[]⟩) (n:=sz) z0 (by omega)
   rw [app_nil] at this
   rw [HS.out,enc_parts,if_pos rfl,this,ByteArray.size_append]
  have HC5:Hid (∀ (wz:World) (r:Nat),Rg wz r (tl s (encH ⟨1,md,tm,lk,sz,tg⟩).size) 0→Calls Tryz.prog 88 #[Pa r] wz (RgCall wz r (.int .u64 sz) (tl s s.size) 0)):=Lib.hid fun wz r h=>by
   have:=rg_short h hze hs (by rw [r5])
   rw [r5] at this
   exact this
  obtain rfl:tg=⟨#[]⟩:=bt_ext (by
   have:tg.data.toList.length=0:=by rw [Array.length_toList]; exact tz
   rw [List.length_eq_zero_iff.1 this])
  have q9:decide (sz > 4611686018427387904)=false:=by simp; omega
  have hsw:IntKind.i64.wrap sz=sz:=by rw [IntKind.wrap_i64]; omega
  clear r5
  go_wp2_with fail
  refine (HC5.out _ _ HA.out.rd).mono ?_
  rintro e w6 ⟨rfl,hr2,hk⟩
  have HA:=Lib.hid (HA.out.keep hr2 hk)
  clear hr2 hk HC5
  go_upto_region 12 with (
   go_at_call 86
   refine (HE.out _ _ HA.out.rd).mono ?_
   rintro e w7 ⟨rfl,rfl⟩)
  have HN:=Lib.hid (Blk.new w7 34 (ND.cs ⟨1,md,tm,lk,sz,⟨#[]⟩⟩))
  have HZ:=Lib.hid (HA.out.z.alloc (.cells #[.int .i64 1,.int .i64 md,.int .i64 tm,.int .i64 lk,.int .i64 sz,.string ⟨#[]⟩] 34))
  have HL:=Lib.hid (HA.out.bl.alloc HA.out.bl.size (.cells #[.int .i64 1,.int .i64 md,.int .i64 tm,.int .i64 lk,.int .i64 sz,.string ⟨#[]⟩] 34))
  have hzl:=HA.out.z.lt
  unfold ND.val ND.cs at HCk
  unfold ND.cs at HN
  simp only at HCk HN
  generalize w7.alloc (.cells #[.int .i64 1,.int .i64 md,.int .i64 tm,.int .i64 lk,.int .i64 sz,.string ⟨#[]⟩] 34)=w8 at *
  have hc:=nd_cells (n:=⟨1,md,tm,lk,sz,⟨#[]⟩⟩) HN.out
  obtain ⟨c0,c1,c2,c3,c4,c5⟩:=hc
  simp only at c0 c1 c2 c3 c4 c5
  go_wp2_with (
   go_at_call 90
   refine (HCk.out _).mono ?_
   rintro e w9 ⟨rfl,hb9⟩
   have HZ9:=Lib.hid (blk_below HZ.out hb9)
   have HL9:=Lib.hid (bl_t HL.out hb9)
   have hd:=nd_cells (n:=⟨1,md,tm,lk,sz,⟨#[]⟩⟩) (blk_below HN.out hb9)
   obtain ⟨d0,d1,d2,d3,d4,d5⟩:=hd
   obtain ⟨g0,g1,g2,g3,g4,g5⟩:=nd_frozen HZ9.out
   obtain ⟨b0,b1,b2,b3,b4,b5⟩:=z_cells HZ9.out
   simp only at d0 d1 d2 d3 d4 d5
   clear hb9)
  refine bodyPost_ret (v:=.tuple #[ND.val ⟨1,md,tm,lk,sz,⟨#[]⟩⟩,.int .i64 0]) ?_ rfl ⟨rfl,bl_set6 HL9.out⟩
  exact rdc_results rfl rfl (z_set6 HZ9.out ⟨1,md,tm,lk,sz,⟨#[]⟩⟩)
 ·have e4:(encH ⟨2,md,tm,1,0,tg⟩).size=s.size:=by
   rw [HS.out,enc_parts,if_neg (show ¬ (2:Int)=1 by decide),if_neg (show ¬ (2:Int)=3 by decide),app_nil]
  obtain rfl:tg=⟨#[]⟩:=bt_ext (by
   have:tg.data.toList.length=0:=by rw [Array.length_toList]; exact tz
   rw [List.length_eq_zero_iff.1 this])
  rw [e4] at HA
  clear e4
  go_upto_region 12 with (
   go_at_call 86
   refine (HE.out _ _ HA.out.rd).mono ?_
   rintro e w7 ⟨rfl,rfl⟩)
  have HN:=Lib.hid (Blk.new w7 34 (ND.cs ⟨2,md,tm,1,0,⟨#[]⟩⟩))
  have HZ:=Lib.hid (HA.out.z.alloc (.cells #[.int .i64 2,.int .i64 md,.int .i64 tm,.int .i64 1,.int .i64 0,.string ⟨#[]⟩] 34))
  have HL:=Lib.hid (HA.out.bl.alloc HA.out.bl.size (.cells #[.int .i64 2,.int .i64 md,.int .i64 tm,.int .i64 1,.int .i64 0,.string ⟨#[]⟩] 34))
  have hzl:=HA.out.z.lt
  unfold ND.val ND.cs at HCk
  unfold ND.cs at HN
  simp only at HCk HN
  generalize w7.alloc (.cells #[.int .i64 2,.int .i64 md,.int .i64 tm,.int .i64 1,.int .i64 0,.string ⟨#[]⟩] 34)=w8 at *
  have hc:=nd_cells (n:=⟨2,md,tm,1,0,⟨#[]⟩⟩) HN.out
  obtain ⟨c0,c1,c2,c3,c4,c5⟩:=hc
  simp only at c0 c1 c2 c3 c4 c5
  go_wp2_with (
   go_at_call 90
   refine (HCk.out _).mono ?_
   rintro e w9 ⟨rfl,hb9⟩
   have HZ9:=Lib.hid (blk_below HZ.out hb9)
   have HL9:=Lib.hid (bl_t HL.out hb9)
   have hd:=nd_cells (n:=⟨2,md,tm,1,0,⟨#[]⟩⟩) (blk_below HN.out hb9)
   obtain ⟨d0,d1,d2,d3,d4,d5⟩:=hd
   obtain ⟨g0,g1,g2,g3,g4,g5⟩:=nd_frozen HZ9.out
   obtain ⟨b0,b1,b2,b3,b4,b5⟩:=z_cells HZ9.out
   simp only at d0 d1 d2 d3 d4 d5
   clear hb9)
  refine bodyPost_ret (v:=.tuple #[ND.val ⟨2,md,tm,1,0,⟨#[]⟩⟩,.int .i64 0]) ?_ rfl ⟨rfl,bl_set6 HL9.out⟩
  exact rdc_results rfl rfl (z_set6 HZ9.out ⟨2,md,tm,1,0,⟨#[]⟩⟩)
 ·have htz:tg.size≤100:=(target_no tb).2.1
  have r5:textS s (encH ⟨3,md,tm,lk,0,tg⟩).size 0 100=(tg,s.size,0):=by
   have:=text_read (A:=encH ⟨3,md,tm,lk,0,tg⟩) (R:=⟨#[]⟩) (t:=tg) htz
   rw [app_nil] at this
   rw [HS.out,enc_parts,if_neg (show ¬ (3:Int)=1 by decide),if_pos rfl,this,ByteArray.size_append,ByteArray.size_append,Nat.add_assoc]
  have HC5:Hid (∀ (wz:World) (r:Nat),Rg wz r (tl s (encH ⟨3,md,tm,lk,0,tg⟩).size) 0→Calls Tryz.prog 89 #[Pa r,.int .i64 100] wz (RgCall wz r (.string tg) (tl s s.size) 0)):=Lib.hid fun wz r h=>by
   have:=rg_text h hze hs (by rw [r5])
   rw [r5] at this
   exact this
  clear r5
  go_wp2_with fail
  refine (HC5.out _ _ HA.out.rd).mono ?_
  rintro e w6 ⟨rfl,hr2,hk⟩
  have HA:=Lib.hid (HA.out.keep hr2 hk)
  clear hr2 hk HC5
  go_upto_region 12 with (
   go_at_call 86
   refine (HE.out _ _ HA.out.rd).mono ?_
   rintro e w7 ⟨rfl,rfl⟩)
  have HN:=Lib.hid (Blk.new w7 34 (ND.cs ⟨3,md,tm,lk,0,tg⟩))
  have HZ:=Lib.hid (HA.out.z.alloc (.cells #[.int .i64 3,.int .i64 md,.int .i64 tm,.int .i64 lk,.int .i64 0,.string tg] 34))
  have HL:=Lib.hid (HA.out.bl.alloc HA.out.bl.size (.cells #[.int .i64 3,.int .i64 md,.int .i64 tm,.int .i64 lk,.int .i64 0,.string tg] 34))
  have hzl:=HA.out.z.lt
  unfold ND.val ND.cs at HCk
  unfold ND.cs at HN
  simp only at HCk HN
  generalize w7.alloc (.cells #[.int .i64 3,.int .i64 md,.int .i64 tm,.int .i64 lk,.int .i64 0,.string tg] 34)=w8 at *
  have hc:=nd_cells (n:=⟨3,md,tm,lk,0,tg⟩) HN.out
  obtain ⟨c0,c1,c2,c3,c4,c5⟩:=hc
  simp only at c0 c1 c2 c3 c4 c5
  go_wp2_with (
   go_at_call 90
   refine (HCk.out _).mono ?_
   rintro e w9 ⟨rfl,hb9⟩
   have HZ9:=Lib.hid (blk_below HZ.out hb9)
   have HL9:=Lib.hid (bl_t HL.out hb9)
   have hd:=nd_cells (n:=⟨3,md,tm,lk,0,tg⟩) (blk_below HN.out hb9)
   obtain ⟨d0,d1,d2,d3,d4,d5⟩:=hd
   obtain ⟨g0,g1,g2,g3,g4,g5⟩:=nd_frozen HZ9.out
   obtain ⟨b0,b1,b2,b3,b4,b5⟩:=z_cells HZ9.out
   simp only at d0 d1 d2 d3 d4 d5
   clear hb9)
  refine bodyPost_ret (v:=.tuple #[ND.val ⟨3,md,tm,lk,0,tg⟩,.int .i64 0]) ?_ rfl ⟨rfl,bl_set6 HL9.out⟩
  exact rdc_results rfl rfl (z_set6 HZ9.out ⟨3,md,tm,lk,0,tg⟩)
end Go.Proofs.YtpboohfofodeeaaGreatDoor
/- ref02.Fixed; ref11: Right, Make, of a key that is one and isn't the next number's (conditions: none). -/
namespace Go.Proofs.YtpboohfofodeeaaGreatDoor
open Go.RowKit Go.Maps
theorem strs_snoc (l:List Int) (b:Int):strOfNums (l++[b])=strOfNums l++strOfNums [b]:=bt_ext (by
 rw [ByteArray.data_append,Array.toList_append,strOfNums_data,strOfNums_data,strOfNums_data,List.map_append])
theorem rf_fixed (n:Int) (w:World) (hn:U64 n) :
 Calls Tryz.prog 68 #[.int .u64 n] w fun e w'=>e=.returned (.string (fix8 n))∧Below w.heap.size w w':=by
 have h0:0≤n:=hn.1
 go_enter Tryz.func68,Tryz.ntmps68
 go_upto_region 3 with fail
 go_loopw [3,4] (fun s i wr=>∃ t:Nat,t≤8∧s=.string (strOfNums ((fixC n 8).take t))∧i=.int .i64 (56 - 8 * t)∧Below w.heap.size w wr)
  (fun _ i _=>((intOf i)+8).toNat)
 case atStart=>exact ⟨0,by omega,rfl,rfl,Below.refl _ _⟩
 case round=>
  obtain ⟨t,ht,rfl,rfl,hb⟩:=hrel
  by_cases hlt:t < 8
  ·have hz:(strOfNums ((fixC n 8).take t)).size≤8:=by rw [strOfNums_size,List.length_take,fixC_len]; omega
   have hs1:(strOfNums [n / 2 ^ (8 * (7 - t)) % 256]).size=1:=by rw [strOfNums_size]; rfl
   have e1:((56:Int) - 8 * t).toNat=8 * (7 - t):=by omega
   have hx:(fixC n 8)[t]? = some (n / 2 ^ (8 * (7 - t)) % 256):=by
    unfold fixC
    rw [List.getElem?_map,List.getElem?_range hlt]
    simp
   have hnx:strOfNums ((fixC n 8).take t)++strOfNums [n / 2 ^ (8 * (7 - t)) % 256]=strOfNums ((fixC n 8).take (t+1)):=by
    rw [List.take_add_one,hx,← strs_snoc]
    rfl
   have hcv:=fun b=>cv_one b (n / 2 ^ (8 * (7 - t)) % 256)
   have HNX:=Lib.hid hnx
   clear hnx hx
   go_wp2
   go_roundw
   case rel=>exact ⟨t+1,by omega,by rw [HNX.out],by go_num,hb.alloc hb.size _⟩
   case measure=>simp [intOf]; omega
  ·obtain rfl:t=8:=by omega
   go_wp2
   go_ret
   refine ⟨?_,hb⟩
   rw [List.take_of_length_le (by rw [fixC_len]; omega)]
   rfl
theorem rk_named (k:Int) (w:World):Calls Tryz.prog 84 #[.int .u8 k] w fun e w'=>e=.returned (.bool (k == 100 || k == 120))∧w'=w:=by
 by_cases h1:k=100
 ·subst h1
  go_enter Tryz.func84,Tryz.ntmps84
  go_wp2
  go_ret
  exact ⟨rfl,rfl⟩
 ·have h1':(k == 100)=false:=by simpa using h1
  go_enter Tryz.func84,Tryz.ntmps84
  go_wp2
  go_ret
  rw [h1']
  exact ⟨rfl,rfl⟩
theorem nil_of {n:ByteArray} (h:n.size=0):n=⟨#[]⟩:=by
 obtain ⟨⟨l⟩⟩:=n
 cases l with
 | nil=>rfl
 | cons a t=>simp [ByteArray.size] at h
set_option maxRecDepth 100000 in
set_option maxHeartbeats 4000000 in
theorem rk_right {kind ino:Int} {name:ByteArray} {ix:Int} (h:keyRight kind ino name ix) (hk:kind≠110) (w:World) :
 Calls Tryz.prog 150 #[keyV kind ino name ix] w fun e w'=>e=.returned (.bool true)∧Below w.heap.size w w':=by
 have hb0:Below w.heap.size w (w.alloc (.cells #[.int .u8 kind,.int .i64 ino,.string name,.int .i64 ix] 99)):=(Below.refl _ _).alloc (Nat.le_refl _) _
 have HB0:=Lib.hid hb0
 obtain ⟨c0,c1,c2,c3⟩:=C4.of_blk (Blk.new w 99 #[.int .u8 kind,.int .i64 ino,.string name,.int .i64 ix])
 clear hb0
 unfold keyV keyC
 have HNM:=Lib.hid (fun W=>rk_named kind W)
 rcases h with ⟨rfl,_⟩ | ⟨hk2,h1,h2,h3,h4,rfl⟩ | ⟨rfl,h1,h2,h3,h4,h5⟩ | ⟨rfl,h1,h2,h3,rfl⟩
 ·exact absurd rfl hk
 ·have hk2':(kind == 100 || kind == 120)=true:=by simpa using hk2
  rw [hk2'] at HNM
  have hk':(kind == 110)=false:=by simpa using hk
  have d1:decide (1≤(name.size:Int))=true:=by simp; omega
  have d2:decide ((name.size:Int)≤255)=true:=by simp; omega
  clear hk hk2 hk2'
  go_enter Tryz.func150,Tryz.ntmps150
  go_wp2_with (
   go_at_call 84
   refine (HNM.out _).mono ?_
   rintro e w' ⟨rfl,rfl⟩)
  go_ret
  exact ⟨rfl,HB0.out⟩
 ·obtain rfl:=nil_of h3
  go_enter Tryz.func150,Tryz.ntmps150
  go_wp2_with (
   go_at_call 84
   refine (HNM.out _).mono ?_
   rintro e w' ⟨rfl,rfl⟩)
  go_ret
  exact ⟨by simp_all,HB0.out⟩
 ·obtain rfl:=nil_of h3
  go_enter Tryz.func150,Tryz.ntmps150
  go_wp2_with (
   go_at_call 84
   refine (HNM.out _).mono ?_
   rintro e w' ⟨rfl,rfl⟩)
  go_ret
  exact ⟨by simp_all,HB0.out⟩
end Go.Proofs.YtpboohfofodeeaaGreatDoor
/- ref11: Make, Parse, of a key that is one and isn't the next number's (conditions: none). -/
namespace Go.Proofs.YtpboohfofodeeaaGreatDoor
open Go.RowKit Go.Maps
theorem bl_in2 {w w':World} {o:Obj} (hb:Below (w.alloc o).heap.size (w.alloc o) w'):Below w.heap.size w w':=((Below.refl _ _).alloc (Nat.le_refl _) o).trans (hb.mono (by simp))
set_option maxRecDepth 100000 in
set_option maxHeartbeats 1000000 in
theorem rk_make {kind ino:Int} {name:ByteArray} {ix:Int} (h:keyRight kind ino name ix) (hk:kind≠110) (w:World) :
 Calls Tryz.prog 85 #[keyV kind ino name ix] w fun e w'=>e=.returned (.tuple #[.string (keyText kind ino name ix),.int .i64 0])∧Below w.heap.size w w':=by
 have HR:=Lib.hid (fun W=>rk_right h hk W)
 have hb0:Below w.heap.size w (w.alloc (.cells #[.int .u8 kind,.int .i64 ino,.string name,.int .i64 ix] 99)):=(Below.refl _ _).alloc (Nat.le_refl _) _
 have HB0:=Lib.hid hb0
 have HK0:=Lib.hid (Blk.new w 99 #[.int .u8 kind,.int .i64 ino,.string name,.int .i64 ix])
 obtain ⟨c0,c1,c2,c3⟩:=C4.of_blk HK0.out
 have HF:=Lib.hid (fun W=>rf_fixed (IntKind.u64.wrap ino) W (u64_of ino))
 have HG:=Lib.hid (fun W=>rf_fixed (IntKind.u64.wrap ix) W (u64_of ix))
 have hcv:=fun b=>cv_one b kind
 have hz1:(strOfNums [kind]).size=1:=by rw [strOfNums_size]; rfl
 have hz8:=fix8_size (IntKind.u64.wrap ino)
 have hz9:=fix8_size (IntKind.u64.wrap ix)
 have hnz:name.size≤255:=by unfold keyRight at h; omega
 have hT:Hid (keyText kind ino name ix=if kind=112 then strOfNums [kind]++fix8 (IntKind.u64.wrap ino)++fix8 (IntKind.u64.wrap ix)++name else strOfNums [kind]++fix8 (IntKind.u64.wrap ino)++name):=Lib.hid (by
  unfold keyText numS
  rw [if_neg hk]
  rcases h with ⟨rfl,_⟩ | ⟨hk2,h1,h2,h3,h4,rfl⟩ | ⟨rfl,h1,h2,h3,h4,h5⟩ | ⟨rfl,h1,h2,h3,rfl⟩
  ·exact absurd rfl hk
  ·rw [if_pos hk2,if_neg (by omega)]
  ·obtain rfl:=nil_of h3
   rw [if_neg (by decide),if_pos rfl,if_pos rfl,app_nil]
  ·obtain rfl:=nil_of h3
   rw [if_neg (by decide),if_neg (by decide),if_neg (by decide),app_nil])
 have hk':(kind != 110)=true:=by simpa using hk
 clear hb0 h hk
 generalize hui:IntKind.u64.wrap ino=ui at *
 generalize hux:IntKind.u64.wrap ix=ux at *
 generalize fix8 ui=fi at *
 generalize fix8 ux=fx at *
 unfold keyV keyC at HR ⊢
 generalize strOfNums [kind]=sk at *
 by_cases h112:kind=112
 ·rw [if_pos h112] at hT
  have h112':(kind == 112)=true:=by simpa using h112
  clear h112
  go_enter Tryz.func85,Tryz.ntmps85
  go_upto_region 3 with (
   go_at_call 150
   refine (HR.out _).mono ?_
   rintro e w1 ⟨rfl,hb1⟩
   have HB1:=Lib.hid (bl_t HB0.out hb1)
   have HK1:=Lib.hid (blk_below HK0.out hb1)
   clear hb1)
  clear c0 c1 c2 c3
  obtain ⟨c0,c1,c2,c3⟩:=C4.of_blk HK1.out
  obtain ⟨e0,e1,e2,e3⟩:=C4.of_blk (HK1.out.alloc (.cells #[.int .u8 kind] 5))
  go_upto_region 6 with (
   go_at_call 68
   refine (HF.out _).mono ?_
   rintro e w2 ⟨rfl,hb2⟩
   have hbx:=bl_in2 hb2
   have HB2:=Lib.hid (bl_t HB1.out hbx)
   have HK2:=Lib.hid (blk_below HK1.out hbx)
   clear hb2 hbx)
  clear c0 c1 c2 c3 e0 e1 e2 e3 HF
  obtain ⟨c0,c1,c2,c3⟩:=C4.of_blk HK2.out
  go_wp2_with (
   go_at_call 68
   refine (HG.out _).mono ?_
   rintro e w3 ⟨rfl,hb3⟩
   have HB3:=Lib.hid (bl_t HB2.out hb3)
   obtain ⟨d0,d1,d2,d3⟩:=C4.of_blk (blk_below HK2.out hb3)
   clear hb3)
  go_ret2
  rw [hT.out]
  exact ⟨rfl,HB3.out⟩
 ·rw [if_neg h112] at hT
  have h112':(kind == 112)=false:=by simpa using h112
  clear h112
  go_enter Tryz.func85,Tryz.ntmps85
  go_upto_region 3 with (
   go_at_call 150
   refine (HR.out _).mono ?_
   rintro e w1 ⟨rfl,hb1⟩
   have HB1:=Lib.hid (bl_t HB0.out hb1)
   have HK1:=Lib.hid (blk_below HK0.out hb1)
   clear hb1)
  clear c0 c1 c2 c3
  obtain ⟨c0,c1,c2,c3⟩:=C4.of_blk HK1.out
  obtain ⟨e0,e1,e2,e3⟩:=C4.of_blk (HK1.out.alloc (.cells #[.int .u8 kind] 5))
  go_upto_region 6 with (
   go_at_call 68
   refine (HF.out _).mono ?_
   rintro e w2 ⟨rfl,hb2⟩
   have hbx:=bl_in2 hb2
   have HB2:=Lib.hid (bl_t HB1.out hbx)
   have HK2:=Lib.hid (blk_below HK1.out hbx)
   clear hb2 hbx)
  clear c0 c1 c2 c3 e0 e1 e2 e3 HF
  obtain ⟨c0,c1,c2,c3⟩:=C4.of_blk HK2.out
  go_wp2
  go_ret2
  rw [hT.out]
  exact ⟨rfl,HB2.out⟩
end Go.Proofs.YtpboohfofodeeaaGreatDoor
/- ref11.Parse of the text of a key that is one and isn't the next number's (conditions: none). -/
namespace Go.Proofs.YtpboohfofodeeaaGreatDoor
open Go.RowKit Go.Maps
theorem rk_results {tm:Array Value} {W:World} {b:Nat} {kind ino:Int} {name:ByteArray} {ix x:Int} (h2:tm.getD 2 undef=.pointer (some ⟨b,0,none⟩)) (h3:tm.getD 3 undef=.int .i64 x) (hB:Blk W b 99 (keyC kind ino name ix)) :
 (results Tryz.f39 tm).run Tryz.prog W=.ok (.tuple #[keyV kind ino name ix,.int .i64 x]) W:=by
 obtain ⟨c0,c1,c2,c3⟩:=C4.of_blk hB
 unfold keyV keyC
 clear hB
 rw [Array.getD_eq_getD_getElem?] at h2 h3
 simp [results,Tryz.results39,go_sem, *]
theorem key_set4 {w:World} {b:Nat} {k0 i0 x0:Int} {n0:ByteArray} (h:Blk w b 99 (keyC k0 i0 n0 x0)) (k i x:Int) (n:ByteArray):Blk ((((w.setCell ⟨b,0,none⟩ (.int .u8 k)).setCell ⟨b,1,none⟩ (.int .i64 i)).setCell ⟨b,2,none⟩ (.string n)).setCell ⟨b,3,none⟩ (.int .i64 x)) b 99 (keyC k i n x):=by
 have:=(((h.set_ 0 (.int .u8 k)).set_ 1 (.int .i64 i)).set_ 2 (.string n)).set_ 3 (.int .i64 x)
 simpa [keyC] using this
theorem bl_set4 {w W:World} {b:Nat} {x0 x1 x2 x3:Value} (h:Below b w W):Below b w ((((W.setCell ⟨b,0,none⟩ x0).setCell ⟨b,1,none⟩ x1).setCell ⟨b,2,none⟩ x2).setCell ⟨b,3,none⟩ x3):=
 (((h.setCell (p:=⟨b,0,none⟩) (Nat.le_refl _) _).setCell (p:=⟨b,1,none⟩) (Nat.le_refl _) _).setCell (p:=⟨b,2,none⟩) (Nat.le_refl _) _).setCell (p:=⟨b,3,none⟩) (Nat.le_refl _) _
/-- Under way in Parse: the answer's block, the reader's. -/
structure PrsAt (w wx:World) (r:Nat) (u:ByteArray):Prop where
 hr0:w.heap.size < r
 rd:Rg wx r u 0
 z:Blk wx w.heap.size 99 (keyC 0 0 ⟨#[]⟩ 0)
 bl:Below w.heap.size w wx
theorem PrsAt.keep {w wx wy:World} {r:Nat} {u u':ByteArray} (h:PrsAt w wx r u) (hr:Rg wy r u' 0) (hk:Keep (fun i=>i=r) wx wy):PrsAt w wy r u':=
 ⟨h.hr0,hr,h.z.keep hk (by have:=h.hr0; omega),below_keep' h.bl (Nat.le_of_lt h.hr0) hk⟩
theorem PrsAt.alloc {w wx:World} {r:Nat} {u:ByteArray} (h:PrsAt w wx r u) (o:Obj):PrsAt w (wx.alloc o) r u:=
 ⟨h.hr0,h.rd.alloc o,h.z.alloc o,h.bl.alloc h.bl.size o⟩
set_option maxRecDepth 100000 in
set_option maxHeartbeats 4000000 in
theorem rk_parse {kind ino:Int} {name:ByteArray} {ix:Int} (h:keyRight kind ino name ix) (hk:kind≠110) (w:World) :
 Calls Tryz.prog 39 #[.string (keyText kind ino name ix)] w fun e w'=>e=.returned (.tuple #[keyV kind ino name ix,.int .i64 0])∧Below w.heap.size w w':=by
 obtain ⟨s,hs⟩:∃ s,s=keyText kind ino name ix:=⟨_,rfl⟩
 have HM:Hid (∀ W,Calls Tryz.prog 85 #[.agg #[.int .u8 kind,.int .i64 ino,.string name,.int .i64 ix]] W fun e w'=>e=.returned (.tuple #[.string s,.int .i64 0])∧Below W.heap.size W w'):=Lib.hid (fun W=>by rw [hs]; exact rk_make h hk W)
 have hkr:0≤kind∧kind < 256:=by unfold keyRight at h; omega
 have hir:0≤ino∧ino≤1099511627776:=by unfold keyRight at h; omega
 obtain ⟨R,hR,hRz⟩:∃ R,s=numS kind ino++R∧R.size≤255:=by
  rw [hs]
  unfold keyText
  rw [if_neg hk]
  split
  ·exact ⟨name,rfl,by unfold keyRight at h; omega⟩
  ·split
   ·exact ⟨_,rfl,by rw [fix8_size]; omega⟩
   ·exact ⟨⟨#[]⟩,(app_nil _).symm,Nat.zero_le _⟩
 have h9:s.size=9+R.size:=by rw [hR,ByteArray.size_append,numS_size9]
 have hb0:bt s 0=kind:=by rw [hR]; exact bt_first kind ino R hkr.1 hkr.2
 have hf1:fixedS s 1 0=(ino,9,0):=by rw [hR]; exact fixed_numS R hir
 have HF1:Hid (∀ (wz:World) (r:Nat),Rg wz r (s.extract 1 s.size) 0→Calls Tryz.prog 83 #[Pa r] wz (RgCall wz r (.int .u64 ino) (tl s 9) 0)):=Lib.hid fun wz r h=>by
  have:=rg_fixed (s:=s) (k:=1) h (by omega) (by omega)
  rw [hf1] at this
  exact this
 have hix:=ix_string s 0 (by omega)
 rw [hb0] at hix
 simp only [Int.natCast_zero] at hix
 have hne:(s.toList == [110])=false:=by
  rw [toList_eq]
  refine beq_eq_false_iff_ne.2 fun e=>?_
  have:=congrArg List.length e
  rw [Array.length_toList] at this
  have:s.size=1:=this
  omega
 have hd1:decide ((s.size:Int) < 9)=false:=by simp; omega
 have hw:IntKind.i64.wrap ino=ino:=by rw [IntKind.wrap_i64]; omega
 have hd2:decide (ino > 1099511627776)=false:=by simp; omega
 have hs1:1≤s.size∧9≤s.size∧s.size≤300:=by omega
 obtain ⟨hs1,hs9,hs300⟩:=hs1
 have HSR:=Lib.hid hR
 have HH:=Lib.hid h
 have HNM:=Lib.hid (fun W=>rk_named kind W)
 have HS:=Lib.hid hs
 rw [← hs]
 clear hb0 hf1 hR h9 hs h hRz
 go_enter Tryz.func39,Tryz.ntmps39
 go_upto_region 6 with fail
 have HA:Hid (PrsAt w ((w.alloc (.cells #[.int .u8 0,.int .i64 0,.string ⟨#[]⟩,.int .i64 0] 99)).alloc (.cells #[.string (s.extract 1 s.size),.int .i64 0] 153)) (w.heap.size+1) (s.extract 1 s.size)):=Lib.hid ⟨by omega,by
  have:=Blk.new (w.alloc (.cells #[.int .u8 0,.int .i64 0,.string ⟨#[]⟩,.int .i64 0] 99)) 153 #[.string (s.extract 1 s.size),.int .i64 0]
  simpa [Rg] using this,(Blk.new w 99 (keyC 0 0 ⟨#[]⟩ 0)).alloc _,((Below.refl _ _).alloc (Nat.le_refl _) _).alloc (by simp) _⟩
 generalize (w.alloc (.cells #[.int .u8 0,.int .i64 0,.string ⟨#[]⟩,.int .i64 0] 99)).alloc (.cells #[.string (s.extract 1 s.size),.int .i64 0] 153)=w1 at *
 obtain ⟨r,hrr⟩:∃ r,r=w.heap.size+1:=⟨_,rfl⟩
 rw [← hrr] at HA ⊢
 clear hrr
 go_upto_region 10 with (
  go_at_call 83
  refine (HF1.out _ _ HA.out.rd).mono ?_
  rintro e w2 ⟨rfl,hr2,hk2⟩
  have HA:=Lib.hid (HA.out.keep hr2 hk2)
  clear hr2 hk2)
 have HK:=Lib.hid (Blk.new w2 99 (keyC kind ino ⟨#[]⟩ 0))
 have HA3:=Lib.hid (HA.out.alloc (.cells (keyC kind ino ⟨#[]⟩ 0) 99))
 have hzr:=HA.out.hr0
 have hzl:r < w2.heap.size:=HA.out.rd.lt
 unfold keyC at HK HA3
 generalize w2.alloc (.cells #[.int .u8 kind,.int .i64 ino,.string ⟨#[]⟩,.int .i64 0] 99)=w3 at *
 generalize w2.heap.size=b at *
 obtain ⟨c0,c1,c2,c3⟩:=C4.of_blk HK.out
 obtain ⟨f0,f1,f2,f3⟩:=F4.of_blk HK.out
 have hrb:¬ r=b:=by omega
 have hwb:¬ w.heap.size=b:=by omega
 rcases HH.out with ⟨rfl,_⟩ | ⟨hk2,h1,h2,h3,h4,rfl⟩ | ⟨rfl,h1,h2,h3,h4,h5⟩ | ⟨rfl,h1,h2,h3,rfl⟩
 ·exact absurd rfl hk
 ·have hk2':(kind == 100 || kind == 120)=true:=by simpa using hk2
  have hk3:(kind == 112)=false:=by simp; omega
  have hx:s.extract 9 s.size=name:=by
   rw [HS.out]
   unfold keyText
   rw [if_neg hk,if_pos hk2]
   exact end_ (numS_size9 _ _)
  rw [hk2'] at HNM
  have HKW:=Lib.hid (HK.out.set_ 2 (.string name))
  have HZ:=Lib.hid (HA3.out.z.far (p:=⟨b,2,none⟩) hwb (.string name))
  have HL:=Lib.hid (HA3.out.bl.setCell (p:=⟨b,2,none⟩) (show w.heap.size≤b by omega) (.string name))
  simp only [List.setIfInBounds_toArray,List.set_cons_succ,List.set_cons_zero] at HKW
  clear hk hk2 hk2'
  go_upto_region 12 with (
   go_at_call 84
   refine (HNM.out _).mono ?_
   rintro e w3 ⟨rfl,rfl⟩)
  generalize w3.setCell ⟨b,2,none⟩ (.string name)=w4 at *
  clear c0 c1 c2 c3 f0 f1 f2 f3
  obtain ⟨c0,c1,c2,c3⟩:=C4.of_blk HKW.out
  go_wp2_with (
   go_at_call 85
   refine (HM.out _).mono ?_
   rintro e w5 ⟨rfl,hb5⟩
   have HZ5:=Lib.hid (blk_below HZ.out hb5)
   have HL5:=Lib.hid (bl_t HL.out hb5)
   obtain ⟨d0,d1,d2,d3⟩:=C4.of_blk (blk_below HKW.out hb5)
   obtain ⟨g0,g1,g2,g3⟩:=F4.of_blk HZ5.out
   obtain ⟨z0,z1,z2,z3⟩:=C4.of_blk HZ5.out
   clear hb5)
  refine bodyPost_ret (v:=.tuple #[keyV kind ino name 0,.int .i64 0]) ?_ rfl ⟨rfl,bl_set4 HL5.out⟩
  exact rk_results rfl rfl (key_set4 HZ5.out kind ino 0 name)
 ·obtain rfl:=nil_of h3
  have hg:fixedS s 9 0=(ix,17,0):=by
   have hz:(numS 112 ino++fix8 ix).size=17:=by rw [ByteArray.size_append,numS_size9,fix8_size]
   have he:(numS 112 ino++fix8 ix).extract 9 17=fix8 ix:=by
    have:=end_ (A:=numS 112 ino) (R:=fix8 ix) (numS_size9 _ _)
    rwa [hz] at this
   have ht:takeS (numS 112 ino++fix8 ix) 9 0 8=(fix8 ix,17,0):=by
    unfold takeS
    rw [if_neg (by decide),if_neg (by omega)]
    show ((numS 112 ino++fix8 ix).extract 9 17,17,(0:Int))=_
    rw [he]
   rw [HS.out,keyText_p ino ⟨#[]⟩ ix h4 h5]
   unfold fixedS
   rw [ht]
   simp only
   rw [numT_fix8' ⟨h4,by omega⟩]
  have HF2:Hid (∀ (wz:World) (r:Nat),Rg wz r (tl s 9) 0→Calls Tryz.prog 83 #[Pa r] wz (RgCall wz r (.int .u64 ix) (tl s 17) 0)):=Lib.hid fun wz r h=>by
   have:=rg_fixed (s:=s) (k:=9) h hs9 (by omega)
   rw [hg] at this
   exact this
  have hwx:IntKind.i64.wrap ix=ix:=by rw [IntKind.wrap_i64]; omega
  have hdx:decide (ix≥72057594037927936)=false:=by simp; omega
  clear hg
  go_upto_region 14 with (first
   |(go_at_call 84
     refine (HNM.out _).mono ?_
     rintro e w3 ⟨rfl,rfl⟩)
   |(go_at_call 83
     refine (HF2.out _ _ HA3.out.rd).mono ?_
     rintro e w4 ⟨rfl,hr4,hk4⟩
     have HA4:=Lib.hid (HA3.out.keep hr4 hk4)
     have HK4:=Lib.hid (HK.out.keep hk4 (fun h=>hrb h.symm))
     have x1:w4.cell? ⟨r,1,none⟩=some (.int .i64 0):=hr4.cell 1
     clear hr4 hk4))
  clear c0 c1 c2 c3 f0 f1 f2 f3
  obtain ⟨f0,f1,f2,f3⟩:=F4.of_blk HK4.out
  obtain ⟨c0,c1,c2,c3⟩:=C4.of_blk HK4.out
  have HKW:=Lib.hid (HK4.out.set_ 3 (.int .i64 ix))
  have HZ:=Lib.hid (HA4.out.z.far (p:=⟨b,3,none⟩) hwb (.int .i64 ix))
  have HL:=Lib.hid (HA4.out.bl.setCell (p:=⟨b,3,none⟩) (show w.heap.size≤b by omega) (.int .i64 ix))
  simp only [List.setIfInBounds_toArray,List.set_cons_succ,List.set_cons_zero] at HKW
  go_upto_region 17 with fail
  generalize w4.setCell ⟨b,3,none⟩ (.int .i64 ix)=w6 at *
  clear f0 f1 f2 f3 c0 c1 c2 c3
  obtain ⟨c0,c1,c2,c3⟩:=C4.of_blk HKW.out
  go_wp2_with (
   go_at_call 85
   refine (HM.out _).mono ?_
   rintro e w5 ⟨rfl,hb5⟩
   have HZ5:=Lib.hid (blk_below HZ.out hb5)
   have HL5:=Lib.hid (bl_t HL.out hb5)
   obtain ⟨d0,d1,d2,d3⟩:=C4.of_blk (blk_below HKW.out hb5)
   obtain ⟨g0,g1,g2,g3⟩:=F4.of_blk HZ5.out
   obtain ⟨z0,z1,z2,z3⟩:=C4.of_blk HZ5.out
   clear hb5)
  refine bodyPost_ret (v:=.tuple #[keyV 112 ino ⟨#[]⟩ ix,.int .i64 0]) ?_ rfl ⟨rfl,bl_set4 HL5.out⟩
  exact rk_results rfl rfl (key_set4 HZ5.out 112 ino ix ⟨#[]⟩)
 ·obtain rfl:=nil_of h3
  have HKW:=HK
  have HZ:=Lib.hid HA3.out.z
  have HL:=Lib.hid HA3.out.bl
  go_upto_region 17 with (
   go_at_call 84
   refine (HNM.out _).mono ?_
   rintro e w3 ⟨rfl,rfl⟩)
  clear c0 c1 c2 c3
  obtain ⟨c0,c1,c2,c3⟩:=C4.of_blk HKW.out
  go_wp2_with (
   go_at_call 85
   refine (HM.out _).mono ?_
   rintro e w5 ⟨rfl,hb5⟩
   have HZ5:=Lib.hid (blk_below HZ.out hb5)
   have HL5:=Lib.hid (bl_t HL.out hb5)
   obtain ⟨d0,d1,d2,d3⟩:=C4.of_blk (blk_below HKW.out hb5)
   obtain ⟨g0,g1,g2,g3⟩:=F4.of_blk HZ5.out
   obtain ⟨z0,z1,z2,z3⟩:=C4.of_blk HZ5.out
   clear hb5)
  refine bodyPost_ret (v:=.tuple #[keyV 105 ino ⟨#[]⟩ 0,.int .i64 0]) ?_ rfl ⟨rfl,bl_set4 HL5.out⟩
  exact rk_results rfl rfl (key_set4 HZ5.out 105 ino 0 ⟨#[]⟩)
end Go.Proofs.YtpboohfofodeeaaGreatDoor
/- Lasu's step in few words (conditions: none). -/
namespace Go.Proofs.YtpboohfofodeeaaGreatDoor
open Go
theorem T2 {P:Program} {ops:Array Oper} {Q:Exit→Act→World→Prop} {md:Region.Mode} {S:World→Prop} {t:Nat} (i:Nat) {oi:Oper} {v:Value} {fuel:Nat} {listed:Array Bool} {a:Act} {w:World} (hi:ops[i]? = some oi) (hy:YieldsIf P ops S oi v a)
 (h:wpAnyT P md ops Q S t fuel (listed.setIfInBounds i true) (a.put oi.dst v) w) (hS:S w:=by assumption) (hs:(Region.sinkB md ops t && Region.chainB md ops t)=true:=by kernel_rfl) (hh:headB md ops t listed=true:=by kernel_rfl) (hit:i < t:=by decide)
 (hns:Region.noSelect ops=true:=by kernel_rfl) (hf:Region.free md ops listed i=true:=by kernel_rfl) (hr:(Region.ready md ops listed).contains i=true:=by kernel_rfl) (hQ:∀ c a w,Q (.panic c) (a.put oi.dst v) w→Q (.panic c) a w:=by exact fun _ _ _ h=>h):wpAnyT P md ops Q S t (fuel+1) listed a w:=
 wpAnyT_take2 hs i hh hit hi hns hf hr hQ hy hS h
end Go.Proofs.YtpboohfofodeeaaGreatDoor
