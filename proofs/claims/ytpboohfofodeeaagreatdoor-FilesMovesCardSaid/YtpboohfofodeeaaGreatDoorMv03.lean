/- law16: what a rename makes unlike, plainly (conditions: none). -/
import Derived.Test.YtpboohfofodeeaaGreatDoorMv02
import Derived.Test.YtpboohfofodeeaaGreatDoorM03
import Derived.Test.YtpboohfofodeeaaGreatDoorM06
import Derived.OwnWalk
namespace Go.Proofs.YtpboohfofodeeaaGreatDoor
open Go.RowKit Go.Maps
def oRen (p t:ByteArray):OpA:=⟨7,p,t,bE,0,0,bE⟩
section
variable {fs fs':FS} {sl t:SlotK} {b:Int}
/-- What a rename that was done did. -/
theorem RenR.done {ino:Int} {a:NodeA} {tp:ByteArray} (h:RenR fs sl ino a tp 0 fs') :
 (walkS fs tp false).code=0∧(((walkS fs tp false).ino=ino∧fs'=fs) ∨
  ((walkS fs tp false).ino≠ino∧∃ t:SlotK,(fs.N (walkS fs tp false).ino=none∧fs'=putG { fs with G:=remK fs.G sl } t ino) ∨
   ∃ o,fs.N (walkS fs tp false).ino=some o∧fs'=putG { awayS fs t (walkS fs tp false).ino o with G:=remK (awayS fs t (walkS fs tp false).ino o).G sl } t ino)):=by
 rcases h with ⟨_,h,_⟩ | ⟨hs,⟨h1,h,_⟩ | ⟨h1,⟨_,h,_⟩ | ⟨h2,⟨he,_,rfl⟩ | ⟨hni,⟨_,_,h,_⟩ | ⟨_,⟨_,_,_,_,h,_⟩ | ⟨_,_,_,_,_,h,_⟩ | ⟨_,_,_,_,h,_⟩ | ⟨t,ht,hlong,h⟩⟩⟩⟩⟩⟩
 ·cases h
 ·exact absurd h.symm h1
 ·cases h
 ·exact ⟨h1,.inl ⟨he,rfl⟩⟩
 ·cases h
 ·cases h
 ·cases h
 ·cases h
 ·refine ⟨h1,.inr ⟨hni,t,?_⟩⟩
  rcases h with ⟨h3,rfl⟩ | ⟨o,h3,_,_,rfl⟩
  ·exact .inl ⟨h3,rfl⟩
  ·exact .inr ⟨o,h3,rfl⟩
/-- Two names, and one inode, are other. -/
structure MovD (fs fs':FS) (sl t:SlotK) (b:Int):Prop where
 next:fs'.next=fs.next
 slot:∀ s,s≠sl→s≠t→fs'.G s=fs.G s
 node:∀ k,k≠b→fs'.N k=fs.N k
 has:fs'.N=fs.N∨∃ o,fs.N b=some o
theorem MovD.loc (hD:MovD fs fs' sl t b) {k:KK} {v:ByteArray} (h:¬ (HasIt fs (k,v)↔HasIt fs' (k,v))):(∃ s,(s=sl∨s=t)∧k=.nm s)∨((∃ o,fs.N b=some o)∧(k=.nd b∨(∃ ix,k=.pc b ix)∨∃ n,k=.xa b n)):=by
 have hN:∀ i,(fs'.N=fs.N∨i≠b)→fs'.N i=fs.N i:=fun i hi=>by
  rcases hi with e | e
  ·rw [e]
  ·exact hD.node i e
 have hb:∀ i,¬ (fs'.N=fs.N∨i≠b)→i=b∧∃ o,fs.N b=some o:=fun i hi=>by
  refine ⟨?_,?_⟩
  ·by_cases e:i=b
   ·exact e
   ·exact absurd (.inr e) hi
  ·rcases hD.has with e | e
   ·exact absurd (.inl e) hi
   ·exact e
 cases k with
 | nxt=>
  refine absurd ?_ h
  show v=numV fs.next↔v=numV fs'.next
  rw [hD.next]
 | nm s=>
  by_cases e:s=sl∨s=t
  ·exact .inl ⟨s,e,rfl⟩
  ·refine absurd ?_ h
   show (∃ i,fs.G s=some i∧v=inoV i)↔∃ i,fs'.G s=some i∧v=inoV i
   rw [hD.slot s (fun x=>e (.inl x)) (fun x=>e (.inr x))]
 | nd i=>
  by_cases e:fs'.N=fs.N∨i≠b
  ·refine absurd ?_ h
   show (∃ a,fs.N i=some a∧v=encV a.nd)↔∃ a,fs'.N i=some a∧v=encV a.nd
   rw [hN i e]
  ·obtain ⟨rfl,h2⟩:=hb i e
   exact .inr ⟨h2,.inl rfl⟩
 | pc i ix=>
  by_cases e:fs'.N=fs.N∨i≠b
  ·refine absurd ?_ h
   show (∃ a,fs.N i=some a∧(ix,v)∈a.ps)↔∃ a,fs'.N i=some a∧(ix,v)∈a.ps
   rw [hN i e]
  ·obtain ⟨rfl,h2⟩:=hb i e
   exact .inr ⟨h2,.inr (.inl ⟨ix,rfl⟩)⟩
 | xa i n=>
  by_cases e:fs'.N=fs.N∨i≠b
  ·refine absurd ?_ h
   show (∃ a,fs.N i=some a∧a.at_ n=some v)↔∃ a,fs'.N i=some a∧a.at_ n=some v
   rw [hN i e]
  ·obtain ⟨rfl,h2⟩:=hb i e
   exact .inr ⟨h2,.inr (.inr ⟨n,rfl⟩)⟩
/-- What is told of an inode that is another one now. -/
def MineK (x:ChgA) (b:Int):Prop:=
 (∃ ix,x.key=kkText (.pc b ix)∧(KK.pc b ix).ok)∨(∃ nd:ND,x.key=kkText (.nd b)∧(KK.nd b).ok∧nd.right∧(-9223372036854775808≤nd.time∧nd.time≤9223372036854775807)∧x.old=encS nd)∨∃ n,x.key=kkText (.xa b n)∧(KK.xa b n).ok
theorem chg_of {l m:List (ByteArray × ByteArray)} (hC:Canon fs) (hC':Canon fs') (hl:ItemsOf fs l) (hm:ItemsOf fs' m) (hD:MovD fs fs' sl t b) {x:ChgA} (hx:ChgOk l m x) :
 (∃ s,(s=sl∨s=t)∧x.key=kkText (.nm s)∧(KK.nm s).ok)∨((∃ o,fs.N b=some o)∧MineK x b):=by
 obtain ⟨k,v,hkv,hok,hne,hold⟩:∃ k v,kkText k=x.key∧k.ok∧¬ (HasIt fs (k,v)↔HasIt fs' (k,v))∧((HasIt fs (k,v)∧v=x.old)∨∀ v,¬ HasIt fs (k,v)):=by
  rcases hx with ⟨h1,h2⟩ | ⟨h1,v,h2⟩
  ·obtain ⟨⟨k,v⟩,hq,e⟩:=(hl.mem _).1 h1
   have e1:kkText k=x.key:=congrArg Prod.fst e
   have e2:v=x.old:=congrArg Prod.snd e
   refine ⟨k,v,e1,hC.key hq,fun h=>h2 ((hm.mem _).2 ⟨(k,v),h.1 hq,e⟩),.inl ⟨hq,e2⟩⟩
  ·obtain ⟨⟨k,v'⟩,hq,e⟩:=(hm.mem _).1 h2
   have e1:kkText k=x.key:=congrArg Prod.fst e
   have hn:∀ v,¬ HasIt fs (k,v):=fun v hv=>h1 v ((hl.mem _).2 ⟨(k,v),hv,by rw [← e1]; rfl⟩)
   exact ⟨k,v',e1,hC'.key hq,fun h=>hn _ (h.2 hq),.inr hn⟩
 rcases hD.loc hne with ⟨s,hs,rfl⟩ | ⟨⟨o,ho⟩,rfl | ⟨ix,rfl⟩ | ⟨n,rfl⟩⟩
 ·exact .inl ⟨s,hs,hkv.symm,hok⟩
 ·refine .inr ⟨⟨o,ho⟩,.inr (.inl ⟨o.nd,hkv.symm,hok,(hC.node b o ho).2.1,(hC.node b o ho).2.2,?_⟩)⟩
  rcases hold with ⟨⟨a,ha,hv⟩,e⟩ | hn
  ·rw [ho] at ha
   cases ha
   rw [← e,hv]
   unfold encV
   rw [if_pos (hC.node b o ho).2.1]
  ·exact absurd ⟨o,ho,rfl⟩ (hn (encV o.nd))
 ·exact .inr ⟨⟨o,ho⟩,.inl ⟨ix,hkv.symm,hok⟩⟩
 ·exact .inr ⟨⟨o,ho⟩,.inr (.inr ⟨n,hkv.symm,hok⟩)⟩
end
theorem bt_first (k i:Int) (X:ByteArray) (h0:0≤k) (h1:k < 256):bt (numS k i++X) 0=k:=by
 have hd:(numS k i++X).data.toList=UInt8.ofNat k.toNat :: ((fix8 (IntKind.u64.wrap i)).data.toList++X.data.toList):=by
  unfold numS
  simp only [ByteArray.data_append,Array.toList_append,strOfNums_data,List.map_cons,List.map_nil,List.cons_append,List.nil_append]
 have hs:0 < (numS k i++X).size:=by
  show 0 < (numS k i++X).data.size
  rw [← Array.length_toList,hd]
  simp
 rw [bt_at _ _ hs]
 have:(numS k i++X)[0]'hs=UInt8.ofNat k.toNat:=by
  show (numS k i++X).data[0]'hs=_
  rw [← Array.getElem_toList]
  exact List.getElem_of_eq hd _
 rw [this,UInt8.toNat_ofNat']
 omega
theorem bt_nm {s:SlotK} (h:(KK.nm s).ok):bt (kkText (.nm s)) 0=100:=by
 have e:kkText (.nm s)=numS 100 s.1.1++s.1.2:=by
  show textS_ 100 s.1.1 s.1.2 0=_
  rw [textS_ok h]; rfl
 rw [e]
 exact bt_first _ _ _ (by decide) (by decide)
theorem bt_nd {i:Int} (h:(KK.nd i).ok):bt (kkText (.nd i)) 0=105:=by
 have e:kkText (.nd i)=numS 105 i++⟨#[]⟩:=by
  show textS_ 105 i ⟨#[]⟩ 0=_
  rw [textS_ok h,app_nil]; rfl
 rw [e]
 exact bt_first _ _ _ (by decide) (by decide)
theorem bt_pc {i ix:Int} (h:(KK.pc i ix).ok):bt (kkText (.pc i ix)) 0=112:=by
 have e:kkText (.pc i ix)=numS 112 i++fix8 (IntKind.u64.wrap ix):=by
  show textS_ 112 i ⟨#[]⟩ ix=_
  rw [textS_ok h]; rfl
 rw [e]
 exact bt_first _ _ _ (by decide) (by decide)
theorem bt_xa {i:Int} {n:ByteArray} (h:(KK.xa i n).ok):bt (kkText (.xa i n)) 0=120:=by
 have e:kkText (.xa i n)=numS 120 i++n:=by
  show textS_ 120 i n 0=_
  rw [textS_ok h]; rfl
 rw [e]
 exact bt_first _ _ _ (by decide) (by decide)
theorem two_of {α:Type} {a b:α}:∀ {l:List α},l.Nodup→(∀ x∈l,x=a∨x=b)→l.length≤2
 | [],_,_=>by simp
 | [_],_,_=>by simp
 | [_,_],_,_=>by simp
 | x :: y :: z :: t,hn,h=>by
  exfalso
  have h1:=h x (by simp)
  have h2:=h y (by simp)
  have h3:=h z (by simp)
  simp only [List.nodup_cons,List.mem_cons,not_or] at hn
  obtain ⟨⟨n1,n2,_⟩,⟨n3,_⟩,_⟩:=hn
  rcases h1 with rfl | rfl <;> rcases h2 with rfl | rfl <;> rcases h3 with rfl | rfl <;> simp_all
theorem may_ren {p t:ByteArray} (h:mayS (oRen p t)=0):(splitP p).2=0∧(splitP t).2=0:=⟨may_split2 h,may_dest h (.inr rfl)⟩
def isD (x:ChgA):Bool:=bt x.key 0 == 100
/-- What the law wants of a rename that was done. -/
structure MovOk (n:Nat) (l lm:List (ByteArray × ByteArray)) (pa pb:AnsP) (fs':FS):Prop where
 code:pa.code=0
 mid:Mid (n+5001) fs' lm
 right:RightFS fs'
 node:∃ a,fs'.N pa.ino=some a
 rise:RiseL l∧RiseL lm
 chg:∀ out:List ChgA,(∀ x∈out,ChgOk l lm x)→(out.map ChgA.key).Nodup→(pb.ino=pa.ino→out=[])∧(out.filter isD).length≤2∧∀ x∈out,0 < x.key.size∧(isD x=false→pb.code=0∧MineK x pb.ino)
theorem ints0 (k:Int) (p t:ByteArray):OpInts ⟨k,p,t,bE,0,0,bE⟩:=⟨(by decide : -9223372036854775808≤(0:Int)∧(0:Int)≤9223372036854775807),(by decide : -9223372036854775808≤(0:Int)∧(0:Int)≤9223372036854775807)⟩
theorem kk_size {k:KK} (h:bt (kkText k) 0≠0):0 < (kkText k).size:=by
 rcases Nat.eq_zero_or_pos (kkText k).size with e | e
 ·unfold bt at h
  rw [dif_neg (by omega)] at h
  exact absurd rfl h
 ·exact e
set_option maxHeartbeats 1000000 in
/-- **What is renamed keeps its number; nothing but what stood in its place is lost.** -/
theorem moves_law {n:Nat} {fs:FS} {l la lb lm:List (ByteArray × ByteArray)} {from_ to_:ByteArray} {pa pb pc:AnsP} (h:Mid n fs l) (hd1:DoR l (oStat from_) pa la) (hd2:DoR l (oStat to_) pb lb) (hd3:DoR l (oRen from_ to_) pc lm) :
 (pc.code≠0∧lm=[])∨(pc.code=0∧∃ fs',MovOk n l lm pa pb fs'):=by
 have hC:=h.canon
 rcases mid_step h (ints0 7 from_ to_) hd3 with ⟨h1,h2,_⟩ | ⟨hc,hR,hm,fs1,hds,hM⟩
 ·exact .inl ⟨h1,h2⟩
 obtain ⟨hsf,hst⟩:=may_ren hm
 obtain ⟨h0,hi⟩:=hds.met (by show 4≤(7:Int); decide) hc
 obtain ⟨r,hr⟩:∃ r,r=walkS fs from_ false:=⟨_,rfl⟩
 have h0:r.code=0:=by rw [hr]; exact h0
 have hi:r.ino≠0:=by rw [hr]; exact hi
 obtain ⟨sl,a,hat,h2⟩:=hds.at_ (by show 4≤(7:Int); decide) (r:=r) hr.symm h0 hi
 have hL:RenR fs sl r.ino a to_ 0 fs1:=by
  rcases h2 with ⟨h1,_⟩ | ⟨_,code,h3,rfl⟩ | ⟨h1,_⟩ | ⟨h1,_⟩ | ⟨h1,_⟩
  ·exact absurd h1 (by show ¬ (7:Int)=4; decide)
  ·obtain rfl:code=0:=hc
   exact h3
  ·exact absurd h1 (by show ¬ ((7:Int)=5∨(7:Int)=6); decide)
  ·exact absurd h1 (by show ¬ ((7:Int)=8∨(7:Int)=9∨(7:Int)=10∨(7:Int)=11∨(7:Int)=21); decide)
  ·exact absurd h1 (by show ¬ ((12:Int)≤7∧(7:Int)≤20); decide)
 have hR1:RightFS fs1:=hds.right hC hR hm hc
 have hC1:=hM.canon
 have ha:=hat.node
 obtain ⟨hca,hia,_⟩:=do_stat h hR hsf hr.symm h0 hi ha hd1
 obtain ⟨ht0,hcase⟩:=hL.done
 obtain ⟨t,htr⟩:∃ t,t=walkS fs to_ false:=⟨_,rfl⟩
 rw [← htr] at ht0 hcase
 have hrise:RiseL l∧RiseL lm:=⟨items_sorted hC h.items,items_sorted hC1 hM.items⟩
 have hfull:∀ {s:SlotK} {b:Int} (hD:MovD fs fs1 sl s b) (out:List ChgA),(∀ x∈out,ChgOk l lm x)→(out.map ChgA.key).Nodup→((∃ o,fs.N b=some o)→pb.code=0∧pb.ino=b)→(out.filter isD).length≤2∧∀ x∈out,0 < x.key.size∧(isD x=false→pb.code=0∧MineK x pb.ino):=fun {s b} hD out ho hn hb=>by
  have hall:=fun x hx=>chg_of hC hC1 h.items hM.items hD (ho x hx)
  refine ⟨?_,fun x hx=>?_⟩
  ·have h1:((out.filter isD).map ChgA.key).Nodup:=hn.sublist ((List.filter_sublist (p:=isD) (l:=out)).map ChgA.key)
   have h2:=two_of (a:=kkText (.nm sl)) (b:=kkText (.nm s)) h1 fun k hk=>by
    obtain ⟨x,hx,rfl⟩:=List.mem_map.1 hk
    obtain ⟨hx1,hx2⟩:=List.mem_filter.1 hx
    have hx2:bt x.key 0=100:=by simpa [isD] using hx2
    rcases hall x hx1 with ⟨s',rfl | rfl,e,_⟩ | ⟨_,⟨ix,e,hk⟩ | ⟨nd,e,hk,_⟩ | ⟨m,e,hk⟩⟩
    ·exact .inl e
    ·exact .inr e
    ·rw [e,bt_pc hk] at hx2; cases hx2
    ·rw [e,bt_nd hk] at hx2; cases hx2
    ·rw [e,bt_xa hk] at hx2; cases hx2
   simpa using h2
  ·rcases hall x hx with ⟨s',_,e,hk⟩ | ⟨hex,hmine⟩
   ·refine ⟨by rw [e]; exact kk_size (by rw [bt_nm hk]; decide),fun hd=>?_⟩
    unfold isD at hd
    rw [e,bt_nm hk] at hd
    cases hd
   ·obtain ⟨h1,h2⟩:=hb hex
    refine ⟨?_,fun _=>⟨h1,by rw [h2]; exact hmine⟩⟩
    rcases hmine with ⟨ix,e,hk⟩ | ⟨nd,e,hk,_⟩ | ⟨m,e,hk⟩
    ·rw [e]; exact kk_size (by rw [bt_pc hk]; decide)
    ·rw [e]; exact kk_size (by rw [bt_nd hk]; decide)
    ·rw [e]; exact kk_size (by rw [bt_xa hk]; decide)
 refine .inr ⟨hc,fs1,⟨hca,hM,hR1,?_,hrise,?_⟩⟩
 ·rw [hia]
  rcases hcase with ⟨_,rfl⟩ | ⟨hne,s,⟨hn,rfl⟩ | ⟨o,ho,rfl⟩⟩
  ·exact ⟨a,ha⟩
  ·exact ⟨a,ha⟩
  ·exact ⟨a,(away_N fs s t.ino o (fun e=>hne e.symm)).trans ha⟩
 ·rcases hcase with ⟨hit,rfl⟩ | ⟨hne,s,⟨hn,he⟩ | ⟨o,ho,he⟩⟩
  ·intro out h1 h2
   rw [items_one hC hM.items h.items] at h1
   have e:=dif_self h1
   subst e
   exact ⟨fun _=>rfl,by simp,fun x hx=>by simp at hx⟩
  ·have hD:MovD fs fs1 sl s t.ino:=by
    rw [he]
    exact ⟨rfl,fun x h1 h2=>by show updK (remK fs.G sl) s r.ino x=_; rw [updK_ne h2,remK_ne h1],fun k _=>rfl,.inl rfl⟩
   have hti:t.ino=0:=by
    by_cases e:t.ino=0
    ·exact e
    ·obtain ⟨b,hb⟩:=((take_ok (take_items hC h.items) takeOk0).fsOk hR).at_ hC.wf (p:=to_) (fo:=false) (by rw [← htr]; exact ht0) (by rw [← htr]; exact e)
     rw [← htr,hn] at hb
     cases hb
   have hpb:pb.ino=0:=by
    rcases mid_step h (ints0 20 to_ bE) hd2 with ⟨_,_,e⟩ | ⟨hb0,_,_,_,hds2,_⟩
    ·rw [e]; rfl
    ·exact absurd (by rw [← hti,htr]; rfl) (hds2.met (by show 4≤(20:Int); decide) hb0).2
   intro out h1 h2
   have h3:=hfull hD out h1 h2 (fun ⟨o,ho⟩=>by rw [hn] at ho; cases ho)
   exact ⟨fun e=>absurd (by rw [← hia,← e,hpb]) hi,h3⟩
  ·have hti:t.ino≠0:=fun e=>by
    have:=(hC.node _ o ho).1
    have:keyRight 105 t.ino ⟨#[]⟩ 0:=this
    unfold keyRight at this
    omega
   obtain ⟨hcb,hib,_⟩:=do_stat h hR hst htr.symm ht0 hti ho hd2
   have hD:MovD fs fs1 sl s t.ino:=by
    rw [he]
    refine ⟨rfl,fun x h1 h2=>?_,fun k hk=>away_N fs s t.ino o hk,.inr ⟨o,ho⟩⟩
    show updK (remK (remK fs.G s) sl) s r.ino x=_
    rw [updK_ne h2,remK_ne h1,remK_ne h2]
   intro out h1 h2
   have h3:=hfull hD out h1 h2 (fun _=>⟨hcb,hib⟩)
   exact ⟨fun e=>absurd (by rw [← hib,e,hia]) hne,h3⟩
end Go.Proofs.YtpboohfofodeeaaGreatDoor
/- ref02's Reader: Byte, Fixed (conditions: none). -/
namespace Go.Proofs.YtpboohfofodeeaaGreatDoor
open Go.RowKit Go.Maps
/-- A reader of the reference: what is left of a text, the error. -/
def Rg (w:World) (r:Nat) (u:ByteArray) (e:Int):Prop:=Blk w r 153 #[.string u,.int .i64 e]
/-- A call of it. -/
def RgCall (w:World) (r:Nat) (v:Value) (u:ByteArray) (e:Int):Ending→World→Prop:=fun f w'=>f=.returned v∧Rg w' r u e∧Keep (fun i=>i=r) w w'
def tl (s:ByteArray) (k:Nat):ByteArray:=s.extract k s.size
section
variable {w:World} {r:Nat} {s:ByteArray} {k:Nat} {e0:Int}
theorem tl_size (h:k≤s.size):(tl s k).size=s.size - k:=by unfold tl; rw [ByteArray.size_extract]; omega
theorem tl_bt (h:k≤s.size) (i:Nat):bt (tl s k) i=bt s (k+i):=by
 unfold bt
 have hz:=tl_size (s:=s) h
 by_cases h1:i < (tl s k).size
 ·rw [dif_pos h1,dif_pos (by omega)]
  have h2:i < (s.extract k s.size).size:=h1
  have h3:k+i < s.size:=by omega
  show (((s.extract k s.size)[i]'h2).toNat:Int)=((s[k+i]'h3).toNat:Int)
  rw [ByteArray.getElem_extract]
 ·rw [dif_neg h1,dif_neg (by omega)]
theorem tl_zero (s:ByteArray):tl s 0=s:=by unfold tl; simp
theorem tl_tl (h:k≤s.size) (j:Nat):(tl s k).extract j (tl s k).size=tl s (k+j):=by
 have hz:=tl_size (s:=s) h
 rw [hz]
 unfold tl
 rw [ByteArray.extract_extract]
 congr 1
 omega
theorem numT_ext {t u:ByteArray}:∀ n,(∀ i,i < n→bt t i=bt u i)→numT t n=numT u n
 | 0,_=>rfl
 | n+1,h=>by rw [numT,numT,numT_ext n (fun i hi=>h i (by omega)),h n (by omega)]
theorem join8 {n b:Int} (h0:0≤n) (h1:n < 72057594037927936) (h2:0≤b) (h3:b < 256):bits BinOp.or IntKind.u64 (n * 256) b=n * 256+b:=
 bits_join .u64 64 (by decide) wraps_u64 8 _ _ (by omega) (by omega) (by omega) h2 (by omega) (by omega)
theorem rg_byte (h:Rg w r (tl s k) e0) (hk:k≤s.size) (hs:s.size≤140737488351232) :
 Calls Tryz.prog 87 #[Pa r] w (RgCall w r (.int .u8 (byteS s k e0).1) (tl s (byteS s k e0).2.1) (byteS s k e0).2.2):=by
 have H:=Lib.hid h
 have hz:=tl_size (s:=s) hk
 have c0:w.cell? ⟨r,0,none⟩=some (.string (tl s k)):=h.cell 0
 have c1:w.cell? ⟨r,1,none⟩=some (.int .i64 e0):=h.cell 1
 have f0:=h.frozen 0
 have f1:=h.frozen 1
 unfold byteS
 by_cases he:e0≠0
 ·rw [if_pos he]
  have he':(e0 != 0)=true:=by simpa using he
  clear h he
  go_enter Tryz.func87,Tryz.ntmps87
  go_wp2
  go_ret
  exact ⟨rfl,H.out,Keep.refl _ _⟩
 ·rw [if_neg he]
  obtain rfl:e0=0:=by simpa using he
  by_cases hl:s.size < k+1
  ·rw [if_pos hl]
   have hi:(tl s k).toList=[]:=by
    rw [toList_eq]
    have:(tl s k).data.size=0:=by show (tl s k).size=0; omega
    rw [← List.length_eq_zero_iff,Array.length_toList]
    exact this
   generalize tl s k=u at *
   clear h he
   go_enter Tryz.func87,Tryz.ntmps87
   have he:(u.toList == [])=true:=by rw [hi]; rfl
   go_wp2
   go_ret
   refine ⟨rfl,?_,keep_set (Keep.refl _ _) _ _⟩
   simpa [Rg] using H.out.set_ 1 (.int .i64 20)
  ·rw [if_neg hl]
   have he:((tl s k).toList == [])=false:=by
    have:=toList_ne (tl s k) (by omega)
    simpa using this
   have hix:=ix_string (tl s k) 0 (by omega)
   rw [tl_bt hk] at hix
   have ht:=tl_tl (s:=s) hk 1
   have hu1:1≤(tl s k).size:=by omega
   clear hz
   generalize tl s k=u at *
   generalize bt s (k+0)=b at *
   rw [← ht]
   simp only [Int.natCast_zero] at hix
   clear h ht
   go_enter Tryz.func87,Tryz.ntmps87
   go_wp2
   go_ret
   refine ⟨rfl,?_,keep_set (Keep.refl _ _) _ _⟩
   simpa [Rg] using H.out.set_ 0 (.string (u.extract 1 u.size))
set_option maxRecDepth 100000 in
theorem rg_fixed (h:Rg w r (tl s k) e0) (hk:k≤s.size) (hs:s.size≤140737488351232) :
 Calls Tryz.prog 83 #[Pa r] w (RgCall w r (.int .u64 (fixedS s k e0).1) (tl s (fixedS s k e0).2.1) (fixedS s k e0).2.2):=by
 have H:=Lib.hid h
 have hz:=tl_size (s:=s) hk
 have c0:w.cell? ⟨r,0,none⟩=some (.string (tl s k)):=h.cell 0
 have c1:w.cell? ⟨r,1,none⟩=some (.int .i64 e0):=h.cell 1
 have f0:=h.frozen 0
 have f1:=h.frozen 1
 unfold fixedS takeS
 by_cases he:e0≠0
 ·rw [if_pos he]
  have he':(e0 != 0)=true:=by simpa using he
  clear h he
  go_enter Tryz.func83,Tryz.ntmps83
  go_wp2
  go_ret
  exact ⟨rfl,H.out,Keep.refl _ _⟩
 ·rw [if_neg he]
  obtain rfl:e0=0:=by simpa using he
  by_cases hl:s.size < k+8
  ·rw [if_pos hl]
   have hd:decide (((tl s k).size:Int) < 8)=true:=by simp; omega
   generalize tl s k=u at *
   clear h he
   go_enter Tryz.func83,Tryz.ntmps83
   go_wp2
   go_ret
   refine ⟨rfl,?_,keep_set (Keep.refl _ _) _ _⟩
   simpa [Rg] using H.out.set_ 1 (.int .i64 20)
  ·rw [if_neg hl]
   have hd:decide (((tl s k).size:Int) < 8)=false:=by simp; omega
   have hx:(s.extract k (k+8)).size=8:=by rw [ByteArray.size_extract]; omega
   have hn:numT (s.extract k (k+8)) (s.extract k (k+8)).size=numT (tl s k) 8:=by
    rw [hx]
    refine numT_ext 8 fun i hi=>?_
    rw [tl_bt hk]
    unfold bt
    rw [dif_pos (by omega),dif_pos (by omega)]
    congr 1
    simp [ByteArray.getElem_extract]
   simp only
   rw [hn]
   have ht:=tl_tl (s:=s) hk 8
   have hu8:8≤(tl s k).size:=by omega
   clear hz
   generalize tl s k=u at *
   rw [← ht]
   clear h ht he hx hn
   go_enter Tryz.func83,Tryz.ntmps83
   go_upto_region 8 with fail
   go_loop [3,4] (fun n i=>∃ j:Nat,j≤8∧i=.int .i64 j∧n=.int .u64 (numT u j)) (fun _ i=>8 - (intOf i).toNat)
   case atStart=>exact ⟨0,by omega,rfl,rfl⟩
   case round=>
    obtain ⟨j,hj,rfl,rfl⟩:=hrel
    have hn0:=(numT_lt u j).1
    have hb:=bt_range u j
    by_cases hlt:j < 8
    ·have hn1:=numT_8 u j (by omega)
     have hix:=ix_string u j (by omega)
     go_wp2
     go_round
     case rel=>exact ⟨j+1,by omega,by go_num,by rw [join8 hn0 (by omega) hb.1 hb.2]; rfl⟩
     case measure=>simp [intOf]; omega
    ·obtain rfl:j=8:=by omega
     go_wp2
     go_ret
     refine ⟨rfl,?_,keep_set (Keep.refl _ _) _ _⟩
     simpa [Rg] using H.out.set_ 0 (.string (u.extract 8 u.size))
theorem rg_end (h:Rg w r (tl s k) e0) (hk:k≤s.size) :
 Calls Tryz.prog 86 #[Pa r] w fun e w'=>e=.returned (.int .i64 (if e0=0 then (if k < s.size then 22 else 0) else e0))∧w'=w:=by
 have hz:=tl_size (s:=s) hk
 have c0:w.cell? ⟨r,0,none⟩=some (.string (tl s k)):=h.cell 0
 have c1:w.cell? ⟨r,1,none⟩=some (.int .i64 e0):=h.cell 1
 clear h
 by_cases he:e0=0
 ·subst he
  rw [if_pos rfl]
  by_cases hl:k < s.size
  ·rw [if_pos hl]
   have he:(tl s k).toList.isEmpty=false:=toList_ne (tl s k) (by omega)
   generalize tl s k=u at *
   go_enter Tryz.func86,Tryz.ntmps86
   go_wp2
   go_ret
   exact ⟨rfl,rfl⟩
  ·rw [if_neg hl]
   have he:(tl s k).toList.isEmpty=true:=by
    rw [toList_eq]
    have:(tl s k).data.toList=[]:=by
     rw [← List.length_eq_zero_iff,Array.length_toList]
     show (tl s k).size=0
     omega
    rw [this]; rfl
   generalize tl s k=u at *
   go_enter Tryz.func86,Tryz.ntmps86
   go_wp2
   go_ret
   exact ⟨rfl,rfl⟩
 ·rw [if_neg he]
  have he':(e0 == 0)=false:=by simpa using he
  go_enter Tryz.func86,Tryz.ntmps86
  go_wp2
  go_ret
  exact ⟨rfl,rfl⟩
end
end Go.Proofs.YtpboohfofodeeaaGreatDoor
/- ref02's Reader: Short, Text, where what is read can be read (conditions: none). -/
namespace Go.Proofs.YtpboohfofodeeaaGreatDoor
open Go.RowKit Go.Maps
section
variable {w:World} {r:Nat} {s:ByteArray} {k:Nat}
theorem scan_tl (hk:k≤s.size):∀ (f i:Nat) (acc:Int),k≤(scanS s k f i acc).2.1∧scanS (tl s k) 0 f i acc=((scanS s k f i acc).1,(scanS s k f i acc).2.1 - k,(scanS s k f i acc).2.2)
 | 0,i,acc=>by simp [scanS]
 | f+1,i,acc=>by
  have hz:=tl_size (s:=s) hk
  have ih:=scan_tl hk f (i+1) (acc+(bt s (k+i) - 128) * 128 ^ i)
  rw [scanS,scanS,Nat.zero_add,tl_bt hk,hz]
  have e:(i=s.size - k)↔(k+i=s.size):=by omega
  simp only [e]
  by_cases h1:k+i=s.size
  ·simp [h1]
  ·by_cases h2:(i=9∧1 < bt s (k+i))∨(bt s (k+i)=0∧0 < i)
   ·simp only [h1,h2,if_true,if_false]
    simp
   ·by_cases h3:bt s (k+i) < 128
    ·simp only [h1,h2,h3,if_true,if_false]
     refine ⟨by omega,?_⟩
     rw [show k+i+1 - k=i+1 by omega]
    ·simp only [h1,h2,h3,if_false]
     exact ih
set_option maxRecDepth 100000 in
set_option maxHeartbeats 1000000 in
theorem rg_scan (u:ByteArray) (w:World) (hs:u.size≤140737488351232) (h:(scanS u 0 10 0 0).2.2=0) :
 Calls Tryz.prog 151 #[.string u] w fun e w'=>e=.returned (.tuple #[.int .u64 (scanS u 0 10 0 0).1,.int .i64 (scanS u 0 10 0 0).2.1,.int .i64 0])∧w'=w:=by
 obtain ⟨q,hq⟩:∃ q,q=scanS u 0 10 0 0:=⟨_,rfl⟩
 rw [← hq] at h ⊢
 have HQ:=Lib.hid hq.symm
 have H0:=Lib.hid h
 clear hq h
 go_enter Tryz.func151,Tryz.ntmps151
 go_upto_region 3 with fail
 go_loop [5,6,7] (fun n i _=>∃ (j:Nat) (acc:Int),j≤9∧j≤u.size∧0≤acc∧i=.int .i64 j∧n=.int .u64 acc∧Hid (acc < 128 ^ j∧scanS u 0 (10 - j) j acc=q)) (fun _ i _=>10 - (intOf i).toNat)
 case atStart=>exact ⟨0,0,by omega,by omega,by omega,rfl,rfl,Lib.hid ⟨by simp,HQ.out⟩⟩
 case round=>
  obtain ⟨j,acc,hj,hju,hacc,rfl,rfl,HS⟩:=hrel
  have hE:=HS.out.2
  rw [show 10 - j=(9 - j)+1 from by omega,scanS,Nat.zero_add] at hE
  have h0:=H0.out
  by_cases hend:j=u.size
  ·rw [if_pos hend] at hE
   rw [← hE] at h0
   cases h0
  rw [if_neg hend] at hE
  by_cases hf:(j=9∧1 < bt u j)∨(bt u j=0∧0 < j)
  ·rw [if_pos hf] at hE
   rw [← hE] at h0
   cases h0
  rw [if_neg hf] at hE
  have hlt:j < u.size:=by omega
  have hix:=ix_string u j hlt
  obtain ⟨hb0,hb1⟩:=bt_range u j
  generalize bt u j=b at *
  by_cases hs7:b < 128
  ·rw [if_pos hs7] at hE
   have HE:=Lib.hid hE
   have h9:((j:Int) == 9)=true∧b≤1∧(b == 0)=false∨((j:Int) == 9)=false∧(b == 0)=true∧j≤0∨((j:Int) == 9)=false∧(b == 0)=false:=by
    simp only [beq_iff_eq,beq_eq_false_iff_ne,ne_eq]
    omega
   have hj9:j=9→b % 128≤1:=fun e=>by
    rcases h9 with ⟨h9,hb,hz⟩ | ⟨h9,_⟩ | ⟨h9,_⟩
    ·omega
    ·rw [e] at h9; cases h9
    ·rw [e] at h9; cases h9
   have HJ:=Lib.hid hj9
   clear hf hE h0 hj9
   rcases h9 with ⟨h9,hb,hz⟩ | ⟨h9,hz,hb⟩ | ⟨h9,hz⟩
   all_goals
    go_wp2
    go_ret3
    rw [← HE.out,pk_join acc b j hacc HS.out.1 hb0 hb1 hj HJ.out,show b % 128=b from by omega]
    exact ⟨rfl,rfl⟩
  ·rw [if_neg hs7] at hE
   have HE:=Lib.hid hE
   have h9:((j:Int) == 9)=false∧(b == 0)=false∧j≤8:=by
    simp only [beq_eq_false_iff_ne,ne_eq]
    refine ⟨fun e=>hf (.inl ⟨by omega,by omega⟩),by omega,?_⟩
    rcases Nat.lt_or_ge j 9 with h | h
    ·omega
    ·exact absurd (.inl ⟨by omega,by omega⟩) hf
   clear hf hE h0
   obtain ⟨h9,hz,hj8⟩:=h9
   go_wp2
   go_round
   case rel=>
    have ej:=pk_join acc b j hacc HS.out.1 hb0 hb1 hj (fun _=>by omega)
    rw [show b % 128=b - 128 from by omega] at ej
    rw [ej]
    have hpos:(0:Int) < 128 ^ j:=Int.pow_pos (by omega)
    have hnn:0≤(b - 128) * 128 ^ j:=Int.mul_nonneg (by omega) (by omega)
    have hle:(b - 128) * 128 ^ j≤127 * 128 ^ j:=Int.mul_le_mul_of_nonneg_right (by omega) (by omega)
    have hacc2:=HS.out.1
    exact ⟨j+1,_,by omega,by omega,by omega,by go_num,rfl,Lib.hid ⟨by rw [Int.pow_succ]; omega,by rw [show 10 - (j+1)=9 - j from by omega,HE.out]⟩⟩
   case measure=>simp [intOf]; omega
theorem rg_short (h:Rg w r (tl s k) 0) (hk:k≤s.size) (hs:s.size≤140737488351232) (h0:(shortS s k 0).2.2=0) :
 Calls Tryz.prog 88 #[Pa r] w (RgCall w r (.int .u64 (shortS s k 0).1) (tl s (shortS s k 0).2.1) 0):=by
 have hq:shortS s k 0=scanS s k 10 0 0:=rfl
 have hle:=shortS_le (e:=0) hk
 rw [hq] at h0 hle ⊢
 obtain ⟨h1,h2⟩:=scan_tl hk 10 0 0
 have hS:=Lib.hid (rg_scan (tl s k) w (by rw [tl_size hk]; omega) (by rw [h2]; exact h0))
 rw [h2] at hS
 have ht:=tl_tl (s:=s) hk ((scanS s k 10 0 0).2.1 - k)
 rw [show k+((scanS s k 10 0 0).2.1 - k)=(scanS s k 10 0 0).2.1 by omega] at ht
 have hz:=tl_size (s:=s) hk
 have hn:(scanS s k 10 0 0).2.1 - k≤(tl s k).size:=by omega
 have hnb:(tl s k).size≤140737488351232:=by omega
 simp only at hS
 clear h2 hq h0
 generalize (scanS s k 10 0 0).1=v at *
 generalize (scanS s k 10 0 0).2.1=k' at *
 rw [← ht]
 generalize k' - k=n at *
 clear ht hz
 have H:=Lib.hid h
 have c0:w.cell? ⟨r,0,none⟩=some (.string (tl s k)):=h.cell 0
 have c1:w.cell? ⟨r,1,none⟩=some (.int .i64 0):=h.cell 1
 have f0:=h.frozen 0
 have f1:=h.frozen 1
 clear h
 generalize tl s k=u at *
 go_enter Tryz.func88,Tryz.ntmps88
 go_wp2_with (
  go_at_call 151
  refine hS.out.mono ?_
  rintro e w' ⟨rfl,rfl⟩)
 go_ret
 refine ⟨rfl,?_,keep_set (keep_set (Keep.refl _ _) _ _) _ _⟩
 simpa [Rg] using (H.out.set_ 1 (.int .i64 0)).set_ 0 (.string (u.extract n u.size))
theorem tl_ext (hk:k≤s.size) {n m:Nat} (h:k+n+m≤s.size):(tl s k).extract n (n+m)=s.extract (k+n) (k+n+m):=by
 unfold tl
 rw [ByteArray.extract_extract]
 congr 1
 omega
theorem rg_text (h:Rg w r (tl s k) 0) (hk:k≤s.size) (hs:s.size≤140737488351232) (h0:(textS s k 0 100).2.2=0) :
 Calls Tryz.prog 89 #[Pa r,.int .i64 100] w (RgCall w r (.string (textS s k 0 100).1) (tl s (textS s k 0 100).2.1) 0):=by
 obtain ⟨h1,h2⟩:=scan_tl hk 10 0 0
 unfold textS at h0 ⊢
 rw [if_neg (by decide)] at h0 ⊢
 simp only at h0 ⊢
 by_cases hq:(scanS s k 10 0 0).2.2≠0
 ·rw [if_pos hq] at h0
  exact absurd h0 hq
 rw [if_neg hq] at h0 ⊢
 by_cases hm:(100:Nat) < (scanS s k 10 0 0).1
 ·rw [if_pos hm] at h0
  cases h0
 rw [if_neg hm] at h0 ⊢
 by_cases hl:((s.size - (scanS s k 10 0 0).2.1:Nat):Int) < (scanS s k 10 0 0).1
 ·rw [if_pos hl] at h0
  cases h0
 rw [if_neg hl]
 simp only
 have hq:(scanS s k 10 0 0).2.2=0:=by simpa using hq
 have hle:(scanS s k 10 0 0).2.1≤s.size:=shortS_le (e:=0) hk
 have hv0:0≤(scanS s k 10 0 0).1:=by
  rcases scanS_ends s k 10 0 0 (by omega) (by omega) (by omega) (by simp) with ⟨n,k',e1,_,_,h3,_⟩ | e1 | e1 <;> rw [e1]
  ·exact h3
  ·simp
  ·simp
 have hS:=Lib.hid (rg_scan (tl s k) w (by rw [tl_size hk]; omega) (by rw [h2]; exact hq))
 rw [h2] at hS
 have hz:=tl_size (s:=s) hk
 simp only at hS
 clear h2 hq h0
 have H:=Lib.hid h
 have c0:w.cell? ⟨r,0,none⟩=some (.string (tl s k)):=h.cell 0
 have c1:w.cell? ⟨r,1,none⟩=some (.int .i64 0):=h.cell 1
 have f0:=h.frozen 0
 clear h
 generalize (scanS s k 10 0 0).1=v at *
 generalize (scanS s k 10 0 0).2.1=k' at *
 obtain ⟨m,rfl⟩:∃ m:Nat,v=m:=⟨v.toNat,by omega⟩
 obtain ⟨n,rfl⟩:∃ n,k'=k+n:=⟨k' - k,by omega⟩
 rw [show k+n - k=n by omega] at hS
 rw [Int.toNat_natCast,← tl_ext hk (by omega),← show (tl s k).extract (n+m) (tl s k).size=tl s (k+n+m) by rw [tl_tl hk,Nat.add_assoc]]
 have hd1:decide ((m:Int) > 100)=false:=by simp; omega
 have hd2:decide ((m:Int) > ((tl s k).size:Int) - n)=false:=by simp; omega
 have hn:n+m≤(tl s k).size:=by omega
 have hnb:(tl s k).size≤140737488351232:=by omega
 clear hz hm hl hle h1
 generalize tl s k=u at *
 have q1:IntKind.u64.wrap ((u.size:Int) - n)=(u.size:Int) - n:=by rw [IntKind.wrap_u64]; omega
 have q2:IntKind.i64.wrap (m:Int)=m:=by rw [IntKind.wrap_i64]; omega
 go_enter Tryz.func89,Tryz.ntmps89
 go_wp2_with (
  go_at_call 151
  refine hS.out.mono ?_
  rintro e w' ⟨rfl,rfl⟩)
 go_ret
 refine ⟨rfl,?_,keep_set (Keep.refl _ _) _ _⟩
 simpa [Rg] using H.out.set_ 0 (.string (u.extract (n+m) u.size))
end
end Go.Proofs.YtpboohfofodeeaaGreatDoor
