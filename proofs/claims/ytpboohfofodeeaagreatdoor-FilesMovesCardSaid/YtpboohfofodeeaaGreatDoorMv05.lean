/- ref15.Take of a list of one item: an inode's, an attribute's, a piece's (conditions: none; printed by gen_take1.py). -/
import Derived.Test.YtpboohfofodeeaaGreatDoorMv04
import Derived.Test.YtpboohfofodeeaaGreatDoorM11
namespace Go.Proofs.YtpboohfofodeeaaGreatDoor
open Go.RowKit Go.Maps
theorem info_rnode:(Tryz.prog.info? 67).map (fun i=>(i.zero,i.size,i.bytes))=some (some (.agg #[.int .i64 0,.int .i64 0,.int .i64 0,.int .i64 0,.int .i64 0,.int .i64 0,.string ⟨#[]⟩,.slice none 0 0]),8,88):=by kernel_rfl
theorem info_rattr:(Tryz.prog.info? 69).map (fun i=>(i.zero,i.size,i.bytes))=some (some (.agg #[.int .i64 0,.string ⟨#[]⟩,.string ⟨#[]⟩]),3,40):=by kernel_rfl
/-- Files of the reference: the four cells. -/
def rfC (v1 v3:Value):Array Value:=#[.int .i64 0,v1,.slice none 0 0,v3]
theorem ref_find0 {w:World} {f:Nat} (h:Blk w f 64 (rfC (.slice none 0 0) (.slice none 0 0))) (ino:Int):Calls Tryz.prog 43 #[Pa f,.int .i64 ino] w fun e w'=>e=.returned (.int .i64 (-1))∧w'=w:=by
 have c1:w.cell? ⟨f,1,none⟩=some (.slice none 0 0):=h.cell 1
 clear h
 go_enter Tryz.func43,Tryz.ntmps43
 go_upto_region 2 with fail
 go_loop [5] (fun i=>i=.int .i64 0) (fun _=>0)
 case atStart=>rfl
 case round=>
  subst hrel
  go_wp2
  go_ret
  exact ⟨rfl,rfl⟩
theorem rd_one {w:World} {A:Option Addr} {x:ByteArray × ByteArray} (h:RdI w A 1 [x]):∃ g o,A=some ⟨g,o,none⟩∧w.cell? ⟨g,o,none⟩=some (.string x.1)∧w.cell? ⟨g,o+1,none⟩=some (.string x.2):=by
 obtain ⟨g,o,_,e,c0,c1⟩:=h.at_ (k:=0) (by omega)
 exact ⟨g,o,e,c0,c1⟩
set_option maxRecDepth 100000 in
set_option maxHeartbeats 1000000 in
theorem ref_take_nd {w:World} {A:Option Addr} {c:Nat} {ino:Int} {nd:ND} (hk:(KK.nd ino).ok) (hr:nd.right) (ht : -9223372036854775808≤nd.time∧nd.time≤9223372036854775807) (hs:(encS nd).size≤140737488351232) (hR:RdI w A 1 [(kkText (.nd ino),encS nd)]) :
 Calls Tryz.prog 25 #[.slice A 1 c] w fun e w'=>(∃ (gn cn:Nat),e=.returned (.tuple #[Pa w.heap.size,.bool true])∧(Blk w' w.heap.size 64 (rfC (.slice (some ⟨gn,0,none⟩) 1 cn) (.slice none 0 0))∧w'.cell? ⟨gn,0,none⟩=some (.int .i64 ino))∧True)∧Below w.heap.size w w':=by
 obtain ⟨g,o,rfl,c0,c1⟩:=rd_one hR
 have HP:=Lib.hid (fun W=>rk_parse (kind:=105) (ino:=ino) (name:=⟨#[]⟩) (ix:=0) hk (by decide) W)
 have hkt:keyText 105 ino ⟨#[]⟩ 0=kkText (.nd ino):=(textS_ok hk).symm
 rw [hkt] at HP
 unfold keyV keyC at HP
 simp only at c0 c1
 clear hkt hR
 generalize kkText (.nd ino)=kt at c0 HP
 have hg:=World.block_lt_of_cell? w _ c0
 simp only at hg
 go_enter Tryz.func25,Tryz.ntmps25
 go_upto_region 3 with fail
 have hb0:Below w.heap.size w (w.alloc (.cells (rfC (.slice none 0 0) (.slice none 0 0)) 64)):=(Below.refl _ _).alloc (Nat.le_refl _) _
 have HBF:=Lib.hid (Blk.new w 64 (rfC (.slice none 0 0) (.slice none 0 0)))
 have HB0:=Lib.hid hb0
 have e0:=keepc' hb0 c0
 have e1:=keepc' hb0 c1
 clear hb0 c0 c1
 unfold rfC at HBF HB0 e0 e1
 generalize w.alloc (.cells #[.int .i64 0,.slice none 0 0,.slice none 0 0,.slice none 0 0] 64)=w0 at *
 have c0:=Lib.hid e0
 have c1:=Lib.hid e1
 clear e0 e1
 have HD:=Lib.hid (fun W=>rf_decode hr ht hs W)
 unfold ND.val ND.cs at HD
 obtain ⟨i0,hi,hz0,hz1,hz2⟩:=info_parts info_rnode
 generalize encS nd=ov at *
 go_loopw [5,6,7,8,9,10,11,12,13] (fun v5 _ _ _ _ _ _ _ _ wr=>(v5=.int .i64 0∧wr=w0)∨(v5=.int .i64 1∧Hid (∃ (gn cn:Nat),(Blk wr w.heap.size 64 (rfC (.slice (some ⟨gn,0,none⟩) 1 cn) (.slice none 0 0))∧wr.cell? ⟨gn,0,none⟩=some (.int .i64 ino))∧True∧Below w.heap.size w wr))) (fun v5 _ _ _ _ _ _ _ _ _=>1 - (intOf v5).toNat)
 case atStart=>exact .inl ⟨rfl,rfl⟩
 case round=>
  rcases hrel with ⟨rfl,rfl⟩ | ⟨rfl,HFIN⟩
  case inr=>
   go_wp2_with fail
   go_ret2
   exact ⟨HFIN.out.elim fun g h=>h.elim fun c h=>⟨g,c,rfl,h.1,h.2.1⟩,HFIN.out.elim fun g h=>h.elim fun c h=>h.2.2⟩
  have e0:=c0.out
  have e1:=c1.out
  go_wp2_with fail
  go_quiet (fail)
  have HBq:=Lib.hid (HB0.out.trans (below_drewN (Below.refl w.heap.size wr) nq))
  have HBFq:=Lib.hid (HBF.out.drewN nq)
  have x0:(wr.drewN nq).cell? ⟨g,o,none⟩=some (.string kt):=e0
  have x1:(wr.drewN nq).cell? ⟨g,o+1,none⟩=some (.string ov):=e1
  clear e0 e1 c0 c1 HB0 HBF
  generalize wr.drewN nq=w1 at *
  go_upto_region 20 with (first
   |(go_at_call 39
     refine (HP.out _).mono ?_
     rintro e w2 ⟨rfl,hb2⟩
     have hb3:Below w1.heap.size w1 (w2.alloc (.cells #[.int .u8 105,.int .i64 ino,.string ⟨#[]⟩,.int .i64 0] 99)):=hb2.alloc hb2.size _
     have y1:=keepc' hb3 x1
     have HB3:=Lib.hid (bl_t HBq.out hb3)
     have HBF3:=Lib.hid (blk_below HBFq.out hb3)
     have HKB:=Lib.hid (Blk.new w2 99 #[.int .u8 105,.int .i64 ino,.string ⟨#[]⟩,.int .i64 0])
     clear hb2 hb3)
   |(go_at_call 41
     refine (HD.out _).mono ?_
     rintro e w4 ⟨rfl,hb4⟩
     have hb5:Below (w2.alloc (.cells #[.int .u8 105,.int .i64 ino,.string ⟨#[]⟩,.int .i64 0] 99)).heap.size (w2.alloc (.cells #[.int .u8 105,.int .i64 ino,.string ⟨#[]⟩,.int .i64 0] 99)) (w4.alloc (.cells #[.int .i64 nd.kind,.int .i64 nd.mode,.int .i64 nd.time,.int .i64 nd.links,.int .i64 nd.size,.string nd.target] 34)):=hb4.alloc hb4.size _
     have HB5:=Lib.hid (bl_t HB3.out hb5)
     have HBF5:=Lib.hid (blk_below HBF3.out hb5)
     have HKB5:=Lib.hid (blk_below HKB.out hb5)
     have HIB:=Lib.hid (Blk.new w4 34 #[.int .i64 nd.kind,.int .i64 nd.mode,.int .i64 nd.time,.int .i64 nd.links,.int .i64 nd.size,.string nd.target])
     clear hb4 hb5))
  generalize w4.alloc (.cells #[.int .i64 nd.kind,.int .i64 nd.mode,.int .i64 nd.time,.int .i64 nd.links,.int .i64 nd.size,.string nd.target] 34)=w5 at *
  go_upto_region 22 with fail
  generalize w2.heap.size=kb at *
  generalize w4.heap.size=ib at *
  have e1:w5.cell? ⟨w.heap.size,1,none⟩=some (.slice none 0 0):=HBF5.out.cell 1
  have k1:w5.cell? ⟨kb,1,none⟩=some (.int .i64 ino):=HKB5.out.cell 1
  obtain ⟨i0_,i1_,i2_,i3_,i4_,i5_⟩:_∧_∧_∧_∧_∧_:=⟨HIB.out.cell 0,HIB.out.cell 1,HIB.out.cell 2,HIB.out.cell 3,HIB.out.cell 4,HIB.out.cell 5⟩
  simp only [List.getElem?_toArray,List.getElem?_cons_zero,List.getElem?_cons_succ] at i0_ i1_ i2_ i3_ i4_ i5_
  have hS0:(fun w'=>w'.cell? ⟨w.heap.size,1,none⟩=some (.slice none 0 0)∧w'.cell? ⟨kb,1,none⟩=some (.int .i64 ino)∧w'.cell? ⟨ib,0,none⟩=some (.int .i64 nd.kind)∧w'.cell? ⟨ib,1,none⟩=some (.int .i64 nd.mode)∧w'.cell? ⟨ib,2,none⟩=some (.int .i64 nd.time)∧w'.cell? ⟨ib,3,none⟩=some (.int .i64 nd.links)∧w'.cell? ⟨ib,4,none⟩=some (.int .i64 nd.size)∧w'.cell? ⟨ib,5,none⟩=some (.string nd.target)) w5.drew:=⟨e1,k1,i0_,i1_,i2_,i3_,i4_,i5_⟩
  refine wp_region_T (S:=(fun w'=>w'.cell? ⟨w.heap.size,1,none⟩=some (.slice none 0 0)∧w'.cell? ⟨kb,1,none⟩=some (.int .i64 ino)∧w'.cell? ⟨ib,0,none⟩=some (.int .i64 nd.kind)∧w'.cell? ⟨ib,1,none⟩=some (.int .i64 nd.mode)∧w'.cell? ⟨ib,2,none⟩=some (.int .i64 nd.time)∧w'.cell? ⟨ib,3,none⟩=some (.int .i64 nd.links)∧w'.cell? ⟨ib,4,none⟩=some (.int .i64 nd.size)∧w'.cell? ⟨ib,5,none⟩=some (.string nd.target))) (t:=13) (by kernel_rfl) ?_
  refine' T2 (v:=_) 0 rfl (Or.inl ⟨by rfl,?hy0⟩) ?rest0
  case hy0=>intro w hSw; (try dsimp only at hSw); go_simp; (try with_reducible rfl)
  refine' T2 (v:=_) 1 rfl (Or.inl ⟨by rfl,?hy1⟩) ?rest1
  case hy1=>intro w hSw; (try dsimp only at hSw); go_simp; (try with_reducible rfl)
  refine' T2 (v:=_) 2 rfl (Or.inl ⟨by rfl,?hy2⟩) ?rest2
  case hy2=>intro w hSw; (try dsimp only at hSw); go_simp; (try with_reducible rfl)
  refine' T2 (v:=_) 3 rfl (Or.inl ⟨by rfl,?hy3⟩) ?rest3
  case hy3=>intro w hSw; (try dsimp only at hSw); go_simp; (try with_reducible rfl)
  refine' T2 (v:=_) 4 rfl (Or.inl ⟨by rfl,?hy4⟩) ?rest4
  case hy4=>intro w hSw; (try dsimp only at hSw); go_simp; (try with_reducible rfl)
  refine' T2 (v:=_) 5 rfl (Or.inl ⟨by rfl,?hy5⟩) ?rest5
  case hy5=>intro w hSw; (try dsimp only at hSw); go_simp; (try with_reducible rfl)
  refine' T2 (v:=_) 6 rfl (Or.inl ⟨by rfl,?hy6⟩) ?rest6
  case hy6=>intro w hSw; (try dsimp only at hSw); go_simp; (try with_reducible rfl)
  refine' T2 (v:=_) 7 rfl (Or.inl ⟨by rfl,?hy7⟩) ?rest7
  case hy7=>intro w hSw; (try dsimp only at hSw); go_simp; (try with_reducible rfl)
  refine' T2 (v:=_) 8 rfl (Or.inl ⟨by rfl,?hy8⟩) ?rest8
  case hy8=>intro w hSw; (try dsimp only at hSw); go_simp; (try with_reducible rfl)
  try simp only [Act.put,List.setIfInBounds_toArray,List.set_cons_zero,List.set_cons_succ]
  have HBA:=Lib.hid (show Below w5.heap.size w5 (w5.drew.alloc (.cells #[.int .i64 ino,.int .i64 nd.kind,.int .i64 nd.mode,.int .i64 nd.time,.int .i64 nd.links,.int .i64 nd.size,.string nd.target,.slice none 0 0] 67)) from ((Below.refl _ w5).drew).alloc (Nat.le_refl _) _)
  have a0_:=keepc' HBA.out e1
  have a1_:=keepc' HBA.out k1
  have a2_:=keepc' HBA.out i0_
  have a3_:=keepc' HBA.out i1_
  have a4_:=keepc' HBA.out i2_
  have a5_:=keepc' HBA.out i3_
  have a6_:=keepc' HBA.out i4_
  have a7_:=keepc' HBA.out i5_
  refine wpAnyT_one 9 (by kernel_rfl) rfl (fun K hK=>?_)
  go_simp
  refine hK.out _ _ (fun _=>⟨a0_,a1_,a2_,a3_,a4_,a5_,a6_,a7_⟩) ?_
  clear hK K
  refine wpAnyT_one 10 (by kernel_rfl) rfl (fun K hK=>?_)
  refine step_append_any _ (by rfl) (.tmp 97) (.tmp 102) _ (by rfl) w5.heap.size 67 i0 (.agg #[.int .i64 0,.int .i64 0,.int .i64 0,.int .i64 0,.int .i64 0,.int .i64 0,.string ⟨#[]⟩,.slice none 0 0]) 8 88 Tryz.underlying60 hi hz0 hz1 hz2 rfl (by decide) (.slice none 0 0) 0 [] (by rfl) (World.ownsRow_nil _ _ _ _) (w5.heap.size+1) (some ⟨w5.heap.size,0,none⟩) 1 1 [.int .i64 ino,.int .i64 nd.kind,.int .i64 nd.mode,.int .i64 nd.time,.int .i64 nd.links,.int .i64 nd.size,.string nd.target,.slice none 0 0] (by rfl) ⟨rfl,fun _=>⟨_,rfl,Nat.lt_succ_self _,World.news_of_block (heap_alloc_new w5.drew _)⟩⟩ (by simp [Value.oneCell']) (by decide) (by decide) HBA.out.size ?_
  intro v8 w8 hown8 hg8 _
  obtain ⟨gn,cn,rfl,hgn,_⟩:=own_block hown8 (by decide)
  have hk8:Keep (fun _=>False) w5 w8:=(Keep.of_below HBA.out _).grown hg8 (fun k hk=>by cases hk)
  have s0_:=hk8.cell e1 (fun h=>h)
  have s1_:=hk8.cell k1 (fun h=>h)
  have s2_:=hk8.cell i0_ (fun h=>h)
  have s3_:=hk8.cell i1_ (fun h=>h)
  have s4_:=hk8.cell i2_ (fun h=>h)
  have s5_:=hk8.cell i3_ (fun h=>h)
  have s6_:=hk8.cell i4_ (fun h=>h)
  have s7_:=hk8.cell i5_ (fun h=>h)
  have hbf8:=HBF5.out.keep hk8 (fun h=>h)
  have fr8:=hbf8.frozen 1
  have cg8:=hown8.cells (g:=gn) rfl 0 (.int .i64 ino) rfl
  have HB8:=Lib.hid (HB5.out.trans (hk8.to_below (B:=w.heap.size) HB5.out.size (fun i h=>h.elim)))
  have hgw:¬ gn=w.heap.size:=by have:=HBF5.out.lt; omega
  have HBF8:=Lib.hid hbf8
  have HCG8:=Lib.hid cg8
  clear hown8 hg8 hk8 hbf8 cg8
  refine hK.out _ _ (fun _=>⟨s0_,s1_,s2_,s3_,s4_,s5_,s6_,s7_⟩) ?_
  clear hK K
  refine wpAnyT_one 11 (by kernel_rfl) rfl (fun K hK=>?_)
  go_simp
  refine hK.out _ _ (fun _=>⟨s0_,s1_,s2_,s3_,s4_,s5_,s6_,s7_⟩) ?_
  clear hK K
  refine wpAnyT_one 12 (by kernel_rfl) rfl (fun K hK=>?_)
  go_simp
  refine hK.out _ _ (fun _=>⟨s0_,s1_,s2_,s3_,s4_,s5_,s6_,s7_⟩) ?_
  clear hK K
  refine wpAnyT_one 13 (by kernel_rfl) rfl (fun K hK=>?_)
  go_simp
  refine hK.out _ _ (fun h=>absurd rfl h) ?_
  clear hK K
  refine wpAnyT_done (by kernel_rfl) ?_
  go_wp2_with fail
  go_roundw
  case rel=>
   refine .inr ⟨by go_num,Lib.hid ⟨gn,cn,⟨?_,?_⟩,trivial,HB8.out.setCell (p:=⟨w.heap.size,1,none⟩) (Nat.le_refl _) _⟩⟩
   ·have:=HBF8.out.set_ 1 (.slice (some ⟨gn,0,none⟩) 1 cn)
    simpa [rfC] using this
   ·refine (World.cell?_setCell_other _ _ _ _ (by simp)).trans ?_
    simpa [Addr.add_lit] using HCG8.out
  case measure=>simp [intOf]
set_option maxRecDepth 100000 in
set_option maxHeartbeats 1000000 in
theorem ref_take_xa {w:World} {A:Option Addr} {c:Nat} {ino:Int} {nm ov:ByteArray} (hk:(KK.xa ino nm).ok) (hR:RdI w A 1 [(kkText (.xa ino nm),ov)]) :
 Calls Tryz.prog 25 #[.slice A 1 c] w fun e w'=>(∃ (gn cn:Nat),e=.returned (.tuple #[Pa w.heap.size,.bool true])∧(Blk w' w.heap.size 64 (rfC (.slice none 0 0) (.slice (some ⟨gn,0,none⟩) 1 cn))∧w'.cell? ⟨gn,0,none⟩=some (.int .i64 ino))∧True)∧Below w.heap.size w w':=by
 obtain ⟨g,o,rfl,c0,c1⟩:=rd_one hR
 have HP:=Lib.hid (fun W=>rk_parse (kind:=120) (ino:=ino) (name:=nm) (ix:=0) hk (by decide) W)
 have hkt:keyText 120 ino nm 0=kkText (.xa ino nm):=(textS_ok hk).symm
 rw [hkt] at HP
 unfold keyV keyC at HP
 simp only at c0 c1
 clear hkt hR
 generalize kkText (.xa ino nm)=kt at c0 HP
 have hg:=World.block_lt_of_cell? w _ c0
 simp only at hg
 go_enter Tryz.func25,Tryz.ntmps25
 go_upto_region 3 with fail
 have hb0:Below w.heap.size w (w.alloc (.cells (rfC (.slice none 0 0) (.slice none 0 0)) 64)):=(Below.refl _ _).alloc (Nat.le_refl _) _
 have HBF:=Lib.hid (Blk.new w 64 (rfC (.slice none 0 0) (.slice none 0 0)))
 have HB0:=Lib.hid hb0
 have e0:=keepc' hb0 c0
 have e1:=keepc' hb0 c1
 clear hb0 c0 c1
 unfold rfC at HBF HB0 e0 e1
 generalize w.alloc (.cells #[.int .i64 0,.slice none 0 0,.slice none 0 0,.slice none 0 0] 64)=w0 at *
 have c0:=Lib.hid e0
 have c1:=Lib.hid e1
 clear e0 e1
 obtain ⟨i0,hi,hz0,hz1,hz2⟩:=info_parts info_rattr
 go_loopw [5,6,7,8,9,10,11,12,13] (fun v5 _ _ _ _ _ _ _ _ wr=>(v5=.int .i64 0∧wr=w0)∨(v5=.int .i64 1∧Hid (∃ (gn cn:Nat),(Blk wr w.heap.size 64 (rfC (.slice none 0 0) (.slice (some ⟨gn,0,none⟩) 1 cn))∧wr.cell? ⟨gn,0,none⟩=some (.int .i64 ino))∧True∧Below w.heap.size w wr))) (fun v5 _ _ _ _ _ _ _ _ _=>1 - (intOf v5).toNat)
 case atStart=>exact .inl ⟨rfl,rfl⟩
 case round=>
  rcases hrel with ⟨rfl,rfl⟩ | ⟨rfl,HFIN⟩
  case inr=>
   go_wp2_with fail
   go_ret2
   exact ⟨HFIN.out.elim fun g h=>h.elim fun c h=>⟨g,c,rfl,h.1,h.2.1⟩,HFIN.out.elim fun g h=>h.elim fun c h=>h.2.2⟩
  have e0:=c0.out
  have e1:=c1.out
  go_wp2_with fail
  go_quiet (fail)
  have HBq:=Lib.hid (HB0.out.trans (below_drewN (Below.refl w.heap.size wr) nq))
  have HBFq:=Lib.hid (HBF.out.drewN nq)
  have x0:(wr.drewN nq).cell? ⟨g,o,none⟩=some (.string kt):=e0
  have x1:(wr.drewN nq).cell? ⟨g,o+1,none⟩=some (.string ov):=e1
  clear e0 e1 c0 c1 HB0 HBF
  generalize wr.drewN nq=w1 at *
  go_upto_region 12 with (first
   |(go_at_call 39
     refine (HP.out _).mono ?_
     rintro e w2 ⟨rfl,hb2⟩
     have hb3:Below w1.heap.size w1 (w2.alloc (.cells #[.int .u8 120,.int .i64 ino,.string nm,.int .i64 0] 99)):=hb2.alloc hb2.size _
     have y1:=keepc' hb3 x1
     have HB3:=Lib.hid (bl_t HBq.out hb3)
     have HBF3:=Lib.hid (blk_below HBFq.out hb3)
     have HKB:=Lib.hid (Blk.new w2 99 #[.int .u8 120,.int .i64 ino,.string nm,.int .i64 0])
     clear hb2 hb3))
  generalize w2.alloc (.cells #[.int .u8 120,.int .i64 ino,.string nm,.int .i64 0] 99)=w5 at *
  generalize w2.heap.size=kb at *
  have HBF5:=HBF3
  have HB5:=HB3
  have e1:w5.cell? ⟨w.heap.size,3,none⟩=some (.slice none 0 0):=HBF5.out.cell 3
  have k1:w5.cell? ⟨kb,1,none⟩=some (.int .i64 ino):=HKB.out.cell 1
  have k2:w5.cell? ⟨kb,2,none⟩=some (.string nm):=HKB.out.cell 2
  have hS0:(fun w'=>w'.cell? ⟨w.heap.size,3,none⟩=some (.slice none 0 0)∧w'.cell? ⟨kb,1,none⟩=some (.int .i64 ino)∧w'.cell? ⟨kb,2,none⟩=some (.string nm)) w5.drew:=⟨e1,k1,k2⟩
  refine wp_region_T (S:=(fun w'=>w'.cell? ⟨w.heap.size,3,none⟩=some (.slice none 0 0)∧w'.cell? ⟨kb,1,none⟩=some (.int .i64 ino)∧w'.cell? ⟨kb,2,none⟩=some (.string nm))) (t:=15) (by kernel_rfl) ?_
  refine' T2 (v:=_) 0 rfl (Or.inl ⟨by rfl,?hy0⟩) ?rest0
  case hy0=>intro w hSw; (try dsimp only at hSw); go_simp; (try with_reducible rfl)
  refine' T2 (v:=_) 1 rfl (Or.inl ⟨by rfl,?hy1⟩) ?rest1
  case hy1=>intro w hSw; (try dsimp only at hSw); go_simp; (try with_reducible rfl)
  refine' T2 (v:=_) 2 rfl (Or.inl ⟨by rfl,?hy2⟩) ?rest2
  case hy2=>intro w hSw; (try dsimp only at hSw); go_simp; (try with_reducible rfl)
  refine' T2 (v:=_) 3 rfl (Or.inl ⟨by rfl,?hy3⟩) ?rest3
  case hy3=>intro w hSw; (try dsimp only at hSw); go_simp; (try with_reducible rfl)
  refine' T2 (v:=_) 4 rfl (Or.inl ⟨by rfl,?hy4⟩) ?rest4
  case hy4=>intro w hSw; (try dsimp only at hSw); go_simp; (try with_reducible rfl)
  refine' T2 (v:=_) 5 rfl (Or.inl ⟨by rfl,?hy5⟩) ?rest5
  case hy5=>intro w hSw; (try dsimp only at hSw); go_simp; (try with_reducible rfl)
  refine' T2 (v:=_) 6 rfl (Or.inl ⟨by rfl,?hy6⟩) ?rest6
  case hy6=>intro w hSw; (try dsimp only at hSw); go_simp; (try with_reducible rfl)
  refine' T2 (v:=_) 7 rfl (Or.inl ⟨by rfl,?hy7⟩) ?rest7
  case hy7=>intro w hSw; (try dsimp only at hSw); go_simp; (try with_reducible rfl)
  refine' T2 (v:=_) 8 rfl (Or.inl ⟨by rfl,?hy8⟩) ?rest8
  case hy8=>intro w hSw; (try dsimp only at hSw); go_simp; (try with_reducible rfl)
  refine' T2 (v:=_) 9 rfl (Or.inl ⟨by rfl,?hy9⟩) ?rest9
  case hy9=>intro w hSw; (try dsimp only at hSw); go_simp; (try with_reducible rfl)
  refine' T2 (v:=_) 10 rfl (Or.inl ⟨by rfl,?hy10⟩) ?rest10
  case hy10=>intro w hSw; (try dsimp only at hSw); go_simp; (try with_reducible rfl)
  try simp only [Act.put,List.setIfInBounds_toArray,List.set_cons_zero,List.set_cons_succ]
  have HBA:=Lib.hid (show Below w5.heap.size w5 (w5.drew.alloc (.cells #[.int .i64 ino,.string nm,.string ov] 69)) from ((Below.refl _ w5).drew).alloc (Nat.le_refl _) _)
  have a0_:=keepc' HBA.out e1
  have a1_:=keepc' HBA.out k1
  have a2_:=keepc' HBA.out k2
  refine wpAnyT_one 11 (by kernel_rfl) rfl (fun K hK=>?_)
  go_simp
  refine hK.out _ _ (fun _=>⟨a0_,a1_,a2_⟩) ?_
  clear hK K
  refine wpAnyT_one 12 (by kernel_rfl) rfl (fun K hK=>?_)
  refine step_append_any _ (by rfl) (.tmp 60) (.tmp 67) _ (by rfl) w5.heap.size 69 i0 (.agg #[.int .i64 0,.string ⟨#[]⟩,.string ⟨#[]⟩]) 3 40 Tryz.underlying62 hi hz0 hz1 hz2 rfl (by decide) (.slice none 0 0) 0 [] (by rfl) (World.ownsRow_nil _ _ _ _) (w5.heap.size+1) (some ⟨w5.heap.size,0,none⟩) 1 1 [.int .i64 ino,.string nm,.string ov] (by rfl) ⟨rfl,fun _=>⟨_,rfl,Nat.lt_succ_self _,World.news_of_block (heap_alloc_new w5.drew _)⟩⟩ (by simp [Value.oneCell']) (by decide) (by decide) HBA.out.size ?_
  intro v8 w8 hown8 hg8 _
  obtain ⟨gn,cn,rfl,hgn,_⟩:=own_block hown8 (by decide)
  have hk8:Keep (fun _=>False) w5 w8:=(Keep.of_below HBA.out _).grown hg8 (fun k hk=>by cases hk)
  have s0_:=hk8.cell e1 (fun h=>h)
  have s1_:=hk8.cell k1 (fun h=>h)
  have s2_:=hk8.cell k2 (fun h=>h)
  have hbf8:=HBF5.out.keep hk8 (fun h=>h)
  have fr8:=hbf8.frozen 3
  have cg8:=hown8.cells (g:=gn) rfl 0 (.int .i64 ino) rfl
  have HB8:=Lib.hid (HB5.out.trans (hk8.to_below (B:=w.heap.size) HB5.out.size (fun i h=>h.elim)))
  have hgw:¬ gn=w.heap.size:=by have:=HBF5.out.lt; omega
  have HBF8:=Lib.hid hbf8
  have HCG8:=Lib.hid cg8
  clear hown8 hg8 hk8 hbf8 cg8
  refine hK.out _ _ (fun _=>⟨s0_,s1_,s2_⟩) ?_
  clear hK K
  refine wpAnyT_one 13 (by kernel_rfl) rfl (fun K hK=>?_)
  go_simp
  refine hK.out _ _ (fun _=>⟨s0_,s1_,s2_⟩) ?_
  clear hK K
  refine wpAnyT_one 14 (by kernel_rfl) rfl (fun K hK=>?_)
  go_simp
  refine hK.out _ _ (fun _=>⟨s0_,s1_,s2_⟩) ?_
  clear hK K
  refine wpAnyT_one 15 (by kernel_rfl) rfl (fun K hK=>?_)
  go_simp
  refine hK.out _ _ (fun h=>absurd rfl h) ?_
  clear hK K
  refine wpAnyT_done (by kernel_rfl) ?_
  go_wp2_with fail
  go_roundw
  case rel=>
   refine .inr ⟨by go_num,Lib.hid ⟨gn,cn,⟨?_,?_⟩,trivial,HB8.out.setCell (p:=⟨w.heap.size,3,none⟩) (Nat.le_refl _) _⟩⟩
   ·have:=HBF8.out.set_ 3 (.slice (some ⟨gn,0,none⟩) 1 cn)
    simpa [rfC] using this
   ·refine (World.cell?_setCell_other _ _ _ _ (by simp)).trans ?_
    simpa [Addr.add_lit] using HCG8.out
  case measure=>simp [intOf]
set_option maxRecDepth 100000 in
set_option maxHeartbeats 1000000 in
theorem ref_take_pc {w:World} {A:Option Addr} {c:Nat} {ino:Int} {ix:Int} {ov:ByteArray} (hk:(KK.pc ino ix).ok) (hR:RdI w A 1 [(kkText (.pc ino ix),ov)]) :
 Calls Tryz.prog 25 #[.slice A 1 c] w fun e w'=>e=.returned (.tuple #[.pointer none,.bool false])∧Below w.heap.size w w':=by
 obtain ⟨g,o,rfl,c0,c1⟩:=rd_one hR
 have HP:=Lib.hid (fun W=>rk_parse (kind:=112) (ino:=ino) (name:=⟨#[]⟩) (ix:=ix) hk (by decide) W)
 have hkt:keyText 112 ino ⟨#[]⟩ ix=kkText (.pc ino ix):=(textS_ok hk).symm
 rw [hkt] at HP
 unfold keyV keyC at HP
 simp only at c0 c1
 clear hkt hR
 generalize kkText (.pc ino ix)=kt at c0 HP
 have hg:=World.block_lt_of_cell? w _ c0
 simp only at hg
 go_enter Tryz.func25,Tryz.ntmps25
 go_upto_region 3 with fail
 have hb0:Below w.heap.size w (w.alloc (.cells (rfC (.slice none 0 0) (.slice none 0 0)) 64)):=(Below.refl _ _).alloc (Nat.le_refl _) _
 have HBF:=Lib.hid (Blk.new w 64 (rfC (.slice none 0 0) (.slice none 0 0)))
 have HB0:=Lib.hid hb0
 have e0:=keepc' hb0 c0
 have e1:=keepc' hb0 c1
 clear hb0 c0 c1
 unfold rfC at HBF HB0 e0 e1
 generalize w.alloc (.cells #[.int .i64 0,.slice none 0 0,.slice none 0 0,.slice none 0 0] 64)=w0 at *
 have c0:=Lib.hid e0
 have c1:=Lib.hid e1
 clear e0 e1
 go_loopw [5,6,7,8,9,10,11,12,13] (fun v5 _ _ _ _ _ _ _ _ wr=>v5=.int .i64 0∧wr=w0) (fun v5 _ _ _ _ _ _ _ _ _=>1 - (intOf v5).toNat)
 case atStart=>exact ⟨rfl,rfl⟩
 case round=>
  obtain ⟨rfl,rfl⟩:=hrel
  have e0:=c0.out
  have e1:=c1.out
  go_wp2_with fail
  go_quiet (fail)
  have HBq:=Lib.hid (HB0.out.trans (below_drewN (Below.refl w.heap.size wr) nq))
  have HBFq:=Lib.hid (HBF.out.drewN nq)
  have x0:(wr.drewN nq).cell? ⟨g,o,none⟩=some (.string kt):=e0
  have x1:(wr.drewN nq).cell? ⟨g,o+1,none⟩=some (.string ov):=e1
  clear e0 e1 c0 c1 HB0 HBF
  generalize wr.drewN nq=w1 at *
  go_upto_region 26 with (first
   |(go_at_call 39
     refine (HP.out _).mono ?_
     rintro e w2 ⟨rfl,hb2⟩
     have hb3:Below w1.heap.size w1 (w2.alloc (.cells #[.int .u8 112,.int .i64 ino,.string ⟨#[]⟩,.int .i64 ix] 99)):=hb2.alloc hb2.size _
     have y1:=keepc' hb3 x1
     have HB3:=Lib.hid (bl_t HBq.out hb3)
     have HBF3:=Lib.hid (blk_below HBFq.out hb3)
     have HKB:=Lib.hid (Blk.new w2 99 #[.int .u8 112,.int .i64 ino,.string ⟨#[]⟩,.int .i64 ix])
     clear hb2 hb3))
  have k1:=HKB.out.cell 1
  simp only [List.getElem?_toArray,List.getElem?_cons_zero,List.getElem?_cons_succ] at k1
  generalize w2.alloc (.cells #[.int .u8 112,.int .i64 ino,.string ⟨#[]⟩,.int .i64 ix] 99)=w5 at *
  go_wp2_with (
   go_at_call 43
   refine (ref_find0 HBF3.out ino).mono ?_
   rintro e w6 ⟨rfl,rfl⟩)
  go_ret2
  exact ⟨rfl,HB3.out⟩
end Go.Proofs.YtpboohfofodeeaaGreatDoor
