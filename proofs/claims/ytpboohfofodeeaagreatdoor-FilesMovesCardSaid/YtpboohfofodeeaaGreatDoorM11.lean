/- state: take, the way of an inode (conditions: none). -/
import Derived.Test.YtpboohfofodeeaaGreatDoorM10
import Derived.Test.YtpboohfofodeeaaGreatDoorM02
import Derived.Below
import Derived.Laws.OwnMore
import Derived.Deep.AppendLies
import Derived.Deep.Draws
import Derived.Maps.AppendAt
import Derived.RegionTactic
import Derived.OwnWalk
namespace Go.Proofs.YtpboohfofodeeaaGreatDoor
open Go.RowKit Go.Maps
def ownU (own : Int → Own) (ino : Int) (o : Own) : Int → Own:=fun x=>if x = ino then o else own x
theorem nodesF_upd (N : Int → Option NodeA) (own : Int → Own) (ino : Int) (o : Own) (a : NodeA) : upd (fun k=>(N k).map fun _=>ptrG (own k).g) ino (ptrG o.g) = fun k=>(upd N ino a k).map fun _=>ptrG (ownU own ino o k).g:=by
 funext x
 unfold upd ownU
 by_cases e : x = ino
 ·simp [e]
 ·simp [e]
theorem FlsT.put_ {base c : Nat} {w V w' : World} {f b m n : Nat} {own : Int → Own} {fs : FS} (h : FlsT base c w f b m own fs) (hb : Below w.heap.size w V) (ino : Int) (o : Own) (a : NodeA) (hg : w.heap.size ≤ o.g) (hab : w.heap.size ≤ o.ab) (hv : o.v = .slice none 0 0) (hN : NodeT base c V o a) (hk : Keep (fun i=>i = b) V w') (hn : n ≤ c + 1) (hm : MapI Tryz.prog 3 w' b (fun k=>(upd fs.N ino a k).map fun _=>ptrG (ownU own ino o k).g) n) :
 FlsT base (c + 1) w' f b m (ownU own ino o) { fs with N:=upd fs.N ino a }:=by
 have hV:=h.below hb
 obtain ⟨n1,x1,y1⟩:=h.nodes
 obtain ⟨n2,x2,y2⟩:=h.names
 obtain ⟨n3,x3,y3⟩:=hV.nodes
 obtain ⟨n4,x4,y4⟩:=hV.names
 obtain ⟨es,cl,ho⟩:=y3.obj
 have hnew : ∀ k z,fs.N k = some z → (own k).g ≠ o.g ∧ (own k).ab ≠ o.ab:=fun k z e=>by
  have hz:=h.node k z e
  obtain ⟨an,_,y⟩:=hz.att
  have l1:=hz.blk.lt
  have l2:=y.lt
  omega
 refine ⟨hV.blk.keep hk (blk_ne_map hV.blk ho),⟨n,hn,hm⟩,⟨n4,by omega,y4.keep hk (fun e=>h.ne.1 e.symm)⟩,fun k z e=>?_,fun j k x y hjk hj hk'=>?_,⟨h.ne.1,fun k z e=>?_⟩,h.lo,h.wf⟩
 ·have e : upd fs.N ino a k = some z:=e
  unfold upd at e
  unfold ownU
  by_cases hk1 : k = ino
  ·rw [if_pos hk1] at e; cases e
   rw [if_pos hk1]
   have hbb:=y1.lt
   exact (hN.keep hk (blk_ne_map hN.blk ho) (by omega) (fun i hi=>by rw [hv] at hi; simp [Value.ownBlock] at hi)).more (Nat.le_succ c)
  ·rw [if_neg hk1] at e
   rw [if_neg hk1]
   have hz:=hV.node k z e
   exact (hz.keep hk (blk_ne_map hz.blk ho) (h.ne.2 k z e).1 (fun i hi=>hz.row_map ho i hi)).more (Nat.le_succ c)
 ·have hj : upd fs.N ino a j = some x:=hj
  have hk' : upd fs.N ino a k = some y:=hk'
  unfold upd at hj hk'
  unfold ownU
  by_cases h1 : j = ino
  ·rw [if_pos h1]
   have h2 : ¬ k = ino:=fun e=>hjk (h1.trans e.symm)
   rw [if_neg h2] at hk' ⊢
   obtain ⟨q1,q2⟩:=hnew k y hk'
   exact ⟨q1.symm,q2.symm,fun i hi=>by rw [hv] at hi; simp [Value.ownBlock] at hi⟩
  ·rw [if_neg h1] at hj ⊢
   by_cases h2 : k = ino
   ·rw [if_pos h2]
    obtain ⟨q1,q2⟩:=hnew j x hj
    exact ⟨q1,q2,fun i hi hi2=>by rw [hv] at hi2; simp [Value.ownBlock] at hi2⟩
   ·rw [if_neg h2] at hk' ⊢
    exact h.apart j k x y hjk hj hk'
 ·have e : upd fs.N ino a k = some z:=e
  unfold upd at e
  unfold ownU
  by_cases hk1 : k = ino
  ·rw [if_pos hk1]
   have hbb:=y1.lt
   have hmm:=y2.lt
   omega
  ·rw [if_neg hk1] at e ⊢
   exact h.ne.2 k z e
def DecT2 (v : ByteArray) (nd : ND) (er : Int) : Prop:=(er = 0 ∧ isNode v ∧ nd = (decRaw v).1) ∨ (er = 21 ∧ ¬ isNode v)
theorem dec_is (v : ByteArray) (W : World) (hv : v.size ≤ 140737488351232) : Calls Tryz.prog 95 #[.string v] W fun e w'=>(∃ (kind mode time links size : Int) (target : ByteArray) (er : Int),e = .returned (.tuple #[.agg #[.int .i64 kind,.int .i64 mode,.int .i64 time,.int .i64 links,.int .i64 size,.string target],.int .i64 er]) ∧ DecT2 v ⟨kind,mode,time,links,size,target⟩ er) ∧ Below W.heap.size W w':=
 (in_decode v W hv).mono fun _e _w' ⟨he,hb⟩=>⟨he.elim (fun h=>⟨_,_,_,_,_,_,_,h.2,.inl ⟨rfl,h.1,rfl⟩⟩) (fun h=>⟨_,_,_,_,_,_,_,h.2,.inr ⟨rfl,h.1⟩⟩),hb⟩
set_option maxRecDepth 100000 in
set_option maxHeartbeats 2000000 in
theorem take_nd {base c : Nat} {w : World} {f b m : Nat} {own : Int → Own} {fs : FS} (h : FlsT base c w f b m own fs) (k v : ByteArray) (hk : k.size ≤ 140737488351232) (hv : v.size ≤ 140737488351232) (hlow : base ≤ w.heap.size) (hK : isKey k) (hkind : (rawKey k).1 = 105) (hc : c < 1099511627776) :
 Calls Tryz.prog 45 #[Pa f,.agg #[.string k,.string v]] w (TakeEnds base c w f b m fs k v):=by
 have hq : itS fs k v = open Classical in (if isNode v then some { fs with N:=upd fs.N (rawKey k).2.1 ⟨(decRaw v).1,[],fun _=>none⟩ } else none):=by
  unfold itS parseK
  rw [dif_pos hK,if_neg (by omega),if_pos hkind]
 have hP:=Lib.hid (fun W=>pkey_is hK W hk)
 rw [hkind] at hP
 have hwf:=key_wf hK
 have hinf:=Lib.hid (key_parts hK)
 generalize (rawKey k).2.1 = ino at *
 generalize (rawKey k).2.2.1 = name at *
 generalize (rawKey k).2.2.2.1 = ix at *
 have H:=Lib.hid h
 have HQ:=Lib.hid hq
 have hX:=Blk.new w 59 #[.string k,.string v]
 have hb0 : Below w.heap.size w (w.alloc (.cells #[.string k,.string v] 59)):=(Below.refl _ _).alloc (Nat.le_refl _) _
 have HB0:=Lib.hid hb0
 have HX:=Lib.hid hX
 clear hb0 h hq hX
 go_enter Tryz.func45,Tryz.ntmps45
 go_wp2_with (go_at_call 93; refine (hP.out _).mono ?_; rintro e w1 ⟨rfl,hb⟩; have HB:=Lib.hid (bl_t HB0.out hb); have HX1:=Lib.hid (blk_below HX.out hb); clear hb)
 have hF:=H.out.below (HB.out.alloc HB.out.size (.cells #[.int .u8 105,.int .i64 ino,.string name,.int .i64 ix] 99))
 have hL:=look_nodes hF ino hwf
 have hKB:=Blk.new w1 99 #[.int .u8 105,.int .i64 ino,.string name,.int .i64 ix]
 obtain ⟨k0,k1,k2,k3⟩:=@key_cells w1 105 ino ix name
 have d1 : (w1.alloc (.cells #[.int .u8 105,.int .i64 ino,.string name,.int .i64 ix] 99)).cell? ⟨f,1,none⟩ = some (.map (some b)):=hF.blk.cell 1
 have hx2:=HX1.out.alloc (.cells #[.int .u8 105,.int .i64 ino,.string name,.int .i64 ix] 99)
 have HF:=Lib.hid hF
 have HB2:=Lib.hid (HB.out.alloc HB.out.size (.cells #[.int .u8 105,.int .i64 ino,.string name,.int .i64 ix] 99))
 have HKB:=Lib.hid hKB
 have HX2:=Lib.hid hx2
 clear hF hx2 hKB
 generalize w1.alloc (.cells #[.int .u8 105,.int .i64 ino,.string name,.int .i64 ix] 99) = w2 at *
 generalize w1.heap.size = kb at *
 go_quiet (fail)
 have HB3:=Lib.hid (below_drewN HB2.out nq)
 have HF3:=Lib.hid (HF.out.below (below_drewN (Below.refl _ _) nq))
 have HKB3:=Lib.hid (HKB.out.drewN nq)
 have HX3:=Lib.hid (HX2.out.drewN nq)
 have x1 : (w2.drewN nq).cell? ⟨w.heap.size,1,none⟩ = some (.string v):=HX3.out.cell 1
 have q0 : (w2.drewN nq).cell? ⟨kb,0,none⟩ = some (.int .u8 105):=k0
 have q1 : (w2.drewN nq).cell? ⟨kb,1,none⟩ = some (.int .i64 ino):=k1
 have q2 : (w2.drewN nq).cell? ⟨kb,2,none⟩ = some (.string name):=k2
 have q3 : (w2.drewN nq).cell? ⟨kb,3,none⟩ = some (.int .i64 ix):=k3
 clear hL k0 k1 k2 k3 d1 HB2 HF HKB HX2
 generalize w2.drewN nq = w3 at *
 have hD:=Lib.hid (fun W=>dec_is v W hv)
 have d1 : w3.cell? ⟨f,1,none⟩ = some (.map (some b)):=HF3.out.blk.cell 1
 have hxl : w.heap.size < w3.heap.size:=HX3.out.lt
 have hkl : kb < w3.heap.size:=HKB3.out.lt
 have hfl : f < w3.heap.size:=HF3.out.blk.lt
 have HA3:=Lib.hid (HF3.out.below ((Below.refl w3.heap.size w3).alloc (Nat.le_refl _) (.cells zeroND.cs 34)))
 have HZ3:=Lib.hid (Blk.new w3 34 zeroND.cs)
 have x1' : (w3.alloc (.cells zeroND.cs 34)).cell? ⟨w.heap.size,1,none⟩ = some (.string v):=(HX3.out.alloc _).cell 1
 have HKA:=Lib.hid (HKB3.out.alloc (.cells zeroND.cs 34))
 go_wp2_with (
  go_at_call 95
  refine (hD.out _).mono ?_
  rintro e w4 ⟨⟨kind,mode,time,links,size,target,er,rfl,hdc⟩,hb4⟩
  have HDC:=Lib.hid hdc
  have HB4:=Lib.hid hb4
  have hz4:=blk_below HZ3.out hb4
  obtain ⟨z0,z1,z2,z3,z4,z5⟩:=z_cells hz4
  obtain ⟨r0,r1,r2,r3,r4,r5⟩:=nd_frozen hz4
  have HZ4:=Lib.hid hz4
  clear hdc hb4 hz4)
 have hZ5:=z_set6 HZ4.out ⟨kind,mode,time,links,size,target⟩
 have hk5 : Keep (fun i=>i = w3.heap.size) w4 ((((((w4.setCell ⟨w3.heap.size,0,none⟩ (.int .i64 kind)).setCell ⟨w3.heap.size,1,none⟩ (.int .i64 mode)).setCell ⟨w3.heap.size,2,none⟩ (.int .i64 time)).setCell ⟨w3.heap.size,3,none⟩ (.int .i64 links)).setCell ⟨w3.heap.size,4,none⟩ (.int .i64 size)).setCell ⟨w3.heap.size,5,none⟩ (.string target)):=
  keep_set (keep_set (keep_set (keep_set (keep_set (keep_set (Keep.refl _ w4) 0 _) 1 _) 2 _) 3 _) 4 _) 5 _
 have hF4:=HA3.out.below HB4.out
 have hF5:=hF4.keepr hk5 (by omega) (fun i es cl h e=>blk_ne_map HZ4.out h e.symm) (fun i cs h=>Blk.ne_ h HZ4.out (by decide)) (fun i cs h=>Blk.ne_ h HZ4.out (by decide))
 have hK5:=(blk_below HKA.out HB4.out).keep hk5 (by omega)
 have hb34 : Below w3.heap.size w3 w4:=((Below.refl w3.heap.size w3).alloc (Nat.le_refl _) (.cells zeroND.cs 34)).trans (HB4.out.mono (by simp))
 have hB5 : Below w.heap.size w ((((((w4.setCell ⟨w3.heap.size,0,none⟩ (.int .i64 kind)).setCell ⟨w3.heap.size,1,none⟩ (.int .i64 mode)).setCell ⟨w3.heap.size,2,none⟩ (.int .i64 time)).setCell ⟨w3.heap.size,3,none⟩ (.int .i64 links)).setCell ⟨w3.heap.size,4,none⟩ (.int .i64 size)).setCell ⟨w3.heap.size,5,none⟩ (.string target)):=
  (bl_t HB3.out hb34).trans (hk5.to_below (bl_t HB3.out hb34).size (fun i hi=>by rw [hi]; exact HB3.out.size))
 clear x1 x1' q0 q1 q2 q3 z0 z1 z2 z3 z4 z5 r0 r1 r2 r3 r4 r5 hk5 hF4 hb34 d1
 generalize (((((w4.setCell ⟨w3.heap.size,0,none⟩ (.int .i64 kind)).setCell ⟨w3.heap.size,1,none⟩ (.int .i64 mode)).setCell ⟨w3.heap.size,2,none⟩ (.int .i64 time)).setCell ⟨w3.heap.size,3,none⟩ (.int .i64 links)).setCell ⟨w3.heap.size,4,none⟩ (.int .i64 size)).setCell ⟨w3.heap.size,5,none⟩ (.string target) = w5 at *
 obtain ⟨z0,z1,z2,z3,z4,z5⟩ : w5.cell? ⟨w3.heap.size,0,none⟩ = some (.int .i64 kind) ∧ w5.cell? ⟨w3.heap.size,1,none⟩ = some (.int .i64 mode) ∧ w5.cell? ⟨w3.heap.size,2,none⟩ = some (.int .i64 time) ∧ w5.cell? ⟨w3.heap.size,3,none⟩ = some (.int .i64 links) ∧ w5.cell? ⟨w3.heap.size,4,none⟩ = some (.int .i64 size) ∧ w5.cell? ⟨w3.heap.size,5,none⟩ = some (.string target):=⟨hZ5.cell 0,hZ5.cell 1,hZ5.cell 2,hZ5.cell 3,hZ5.cell 4,hZ5.cell 5⟩
 have d1 : w5.cell? ⟨f,1,none⟩ = some (.map (some b)):=hF5.blk.cell 1
 have q1 : w5.cell? ⟨kb,1,none⟩ = some (.int .i64 ino):=hK5.cell 1
 have l1 : f < w5.heap.size:=hF5.blk.lt
 have l2 : kb < w5.heap.size:=hK5.lt
 have l3 : w3.heap.size < w5.heap.size:=hZ5.lt
 have hbV : Below w5.heap.size w5 ((w5.drew.alloc (.map #[] 0)).alloc (.cells (nodeC ⟨kind,mode,time,links,size,target⟩ (.slice none 0 0) w5.heap.size) 135)):=(((Below.refl w5.heap.size w5).drew).alloc (Nat.le_refl _) _).alloc (by simp) _
 have hFV:=hF5.below hbV
 obtain ⟨n1,x1,y1⟩:=hFV.nodes
 obtain ⟨w6,hrun,hm6,hk6,hs6⟩:=y1.store Tryz.underlying3 Tryz.underlying88 (by unfold maxLen; omega) ino hwf (ptrG (w5.heap.size + 1))
 have hrun2 : (Instr.mapUpdate 88 (.map (some b)) (.int .i64 ino) (.pointer (some ⟨w5.heap.size + 1,0,none⟩))).run Tryz.prog (((w5.alloc (.map #[] 0)).alloc (.cells #[.int .i64 kind,.int .i64 mode,.int .i64 time,.int .i64 links,.int .i64 size,.string target,.slice none 0 0,.map (some w5.heap.size)] 135)).drew) = .ok () w6:=hrun
 clear hrun
 have hmm:=@run_makeMap Tryz.prog
 have HF5:=Lib.hid hF5
 have HZ5:=Lib.hid hZ5
 have HK5:=Lib.hid hK5
 have HB5:=Lib.hid hB5
 have HBV:=Lib.hid hbV
 have HFV:=Lib.hid hFV
 obtain ⟨es1,cl1,ho1⟩:=y1.obj
 have hV5:=(Keep.of_below hbV (fun i=>i = b)).trans hk6 (fun i _ h=>h)
 obtain ⟨es0,cl0,ho0⟩:=hF5.nodes.choose_spec.2.obj
 have hf6:=hF5.blk.keep hV5 (blk_ne_map hF5.blk ho0)
 have hk66:=hK5.keep hV5 (blk_ne_map hK5 ho0)
 have hz66:=hZ5.keep hV5 (blk_ne_map hZ5 ho0)
 have i0 : w6.cell? ⟨f,1,none⟩ = some (.map (some b)):=hf6.cell 1
 have i1 : w6.cell? ⟨kb,1,none⟩ = some (.int .i64 ino):=hk66.cell 1
 obtain ⟨j0,j1,j2,j3,j4,j5⟩ : w6.cell? ⟨w3.heap.size,0,none⟩ = some (.int .i64 kind) ∧ w6.cell? ⟨w3.heap.size,1,none⟩ = some (.int .i64 mode) ∧ w6.cell? ⟨w3.heap.size,2,none⟩ = some (.int .i64 time) ∧ w6.cell? ⟨w3.heap.size,3,none⟩ = some (.int .i64 links) ∧ w6.cell? ⟨w3.heap.size,4,none⟩ = some (.int .i64 size) ∧ w6.cell? ⟨w3.heap.size,5,none⟩ = some (.string target):=⟨hz66.cell 0,hz66.cell 1,hz66.cell 2,hz66.cell 3,hz66.cell 4,hz66.cell 5⟩
 clear hV5 hf6 hk66 hz66 ho0 ho1
 have HM6:=Lib.hid hm6
 have HK6:=Lib.hid hk6
 clear hF5 hZ5 hK5 hB5 hbV hFV y1 hm6 hk6
 generalize w3.heap.size = ib at *
 go_region_held3 (fun w'=>w'.cell? ⟨kb,1,none⟩ = some (.int .i64 ino) ∧ w'.cell? ⟨f,1,none⟩ = some (.map (some b)) ∧ w'.cell? ⟨ib,0,none⟩ = some (.int .i64 kind) ∧ w'.cell? ⟨ib,1,none⟩ = some (.int .i64 mode) ∧ w'.cell? ⟨ib,2,none⟩ = some (.int .i64 time) ∧ w'.cell? ⟨ib,3,none⟩ = some (.int .i64 links) ∧ w'.cell? ⟨ib,4,none⟩ = some (.int .i64 size) ∧ w'.cell? ⟨ib,5,none⟩ = some (.string target)) (go_keep) (fail)
 have hNT : NodeT base c ((w5.drew.alloc (.map #[] 0)).alloc (.cells (nodeC ⟨kind,mode,time,links,size,target⟩ (.slice none 0 0) w5.heap.size) 135)) ⟨w5.heap.size + 1,w5.heap.size,.slice none 0 0⟩ ⟨⟨kind,mode,time,links,size,target⟩,[],fun _=>none⟩:=by
  have hbl:=Blk.new (w5.drew.alloc (.map #[] 0)) 135 (nodeC ⟨kind,mode,time,links,size,target⟩ (.slice none 0 0) w5.heap.size)
  rw [show (w5.drew.alloc (.map #[] 0)).heap.size = w5.heap.size + 1 by simp] at hbl
  have hlo : base ≤ w5.heap.size:=Nat.le_trans hlow HB5.out.size
  exact ⟨hbl,⟨rfl,.inl ⟨rfl,rfl⟩⟩,Nat.zero_le _,⟨0,Nat.zero_le _,((MapK.made litS Tryz.prog 9 w5.drew).alloc _).congr (fun _=>rfl)⟩,⟨by simp only; omega,hlo⟩⟩
 have hF6:=HF5.out.put_ HBV.out ino ⟨w5.heap.size + 1,w5.heap.size,.slice none 0 0⟩ ⟨⟨kind,mode,time,links,size,target⟩,[],fun _=>none⟩ (by simp only; omega) (Nat.le_refl _) rfl hNT HK6.out (n:=if ((fs.N ino).map fun _=>ptrG (own ino).g).isSome = true then n1 else n1 + 1) (by split <;> omega) (by rw [← nodesF_upd]; exact HM6.out)
 have hB6 : Below base w w6:=((HB5.out.trans (HBV.out.mono HB5.out.size)).mono hlow).trans (HK6.out.to_below (Nat.le_trans hlow (Nat.le_trans HB5.out.size HBV.out.size)) (fun i hi=>by rw [hi]; exact HFV.out.lo.2.1))
 have HF6:=Lib.hid hF6
 have HB6:=Lib.hid hB6
 clear hF6 hB6 hNT
 go_wp2
 go_ret
 refine ⟨HB6.out,?_⟩
 rcases HDC.out with ⟨rfl,h1,h2⟩ | ⟨rfl,h1⟩
 ·exact .inl ⟨_,_,by rw [HQ.out,if_pos h1,← h2],rfl,HF6.out⟩
 ·exact .inr ⟨by rw [HQ.out,if_neg h1],rfl⟩
end Go.Proofs.YtpboohfofodeeaaGreatDoor
/- state: take, the way of an attribute, and of what has no inode (conditions: none). -/
namespace Go.Proofs.YtpboohfofodeeaaGreatDoor
open Go.RowKit Go.Maps
theorem nodesF_same (N : Int → Option NodeA) (own own' : Int → Own) (ino : Int) (a a' : NodeA) (h : N ino = some a) (ho : ∀ k,(own' k).g = (own k).g) : (fun k=>(upd N ino a' k).map fun _=>ptrG (own' k).g) = fun k=>(N k).map fun _=>ptrG (own k).g:=by
 funext x
 unfold upd
 rw [ho]
 by_cases e : x = ino
 ·subst e; simp [h]
 ·simp [e]
theorem atV_upd (f : ByteArray → Option ByteArray) (s v : ByteArray) : updK (atV f) s (.string v) = atV (updK f s v):=by
 funext x
 unfold updK atV
 by_cases e : x = s
 ·simp [e]
 ·simp [e]
theorem FlsT.att_ {base c n : Nat} {w w' : World} {f b m : Nat} {own : Int → Own} {fs : FS} (h : FlsT base c w f b m own fs) (ino : Int) (a : NodeA) (ha : fs.N ino = some a) (fa : ByteArray → Option ByteArray) (hk : Keep (fun i=>i = (own ino).ab) w w') (hn : n ≤ c + 1) (hm : MapK litS Tryz.prog 9 w' (own ino).ab (atV fa) n) :
 FlsT base (c + 1) w' f b m own { fs with N:=upd fs.N ino { a with at_:=fa } }:=by
 have hA:=h.node ino a ha
 obtain ⟨an,_,yA⟩:=hA.att
 obtain ⟨es,cl,ho⟩:=yA.obj
 obtain ⟨n1,x1,y1⟩:=h.nodes
 obtain ⟨n2,x2,y2⟩:=h.names
 have hne:=h.ne.2 ino a ha
 have hnn : ∀ k z,upd fs.N ino { a with at_:=fa } k = some z → ∃ z',fs.N k = some z':=fun k z e=>by
  unfold upd at e
  by_cases h1 : k = ino
  ·exact ⟨a,by rw [h1]; exact ha⟩
  ·rw [if_neg h1] at e; exact ⟨z,e⟩
 refine ⟨h.blk.keep hk (blk_ne_map h.blk ho),⟨n1,by omega,by
  show MapI _ _ _ _ (fun k=>(upd fs.N ino { a with at_:=fa } k).map fun _=>ptrG (own k).g) _
  rw [nodesF_same fs.N own own ino a _ ha (fun _=>rfl)]; exact y1.keep hk (fun e=>hne.1 e.symm)⟩,⟨n2,by omega,y2.keep hk (fun e=>hne.2 e.symm)⟩,fun k z e=>?_,fun j k x y hjk hj hk'=>?_,⟨h.ne.1,fun k z e=>?_⟩,h.lo,h.wf⟩
 ·have e : upd fs.N ino { a with at_:=fa } k = some z:=e
  unfold upd at e
  by_cases h1 : k = ino
  ·rw [if_pos h1] at e; cases e
   subst h1
   exact ⟨hA.blk.keep hk (blk_ne_map hA.blk ho),own_keep hA.row hk (fun i hi=>hA.row_map ho i hi),Nat.le_succ_of_le hA.few,⟨n,hn,hm⟩,hA.lo⟩
  ·rw [if_neg h1] at e
   have hz:=h.node k z e
   exact (hz.keep hk (blk_ne_map hz.blk ho) (h.apart k ino z a h1 e ha).2.1 (fun i hi=>hz.row_map ho i hi)).more (Nat.le_succ c)
 ·obtain ⟨x',hx⟩:=hnn j x hj
  obtain ⟨y',hy⟩:=hnn k y hk'
  exact h.apart j k x' y' hjk hx hy
 ·obtain ⟨z',hz⟩:=hnn k z e
  exact h.ne.2 k z' hz
set_option maxRecDepth 100000 in
set_option maxHeartbeats 2000000 in
theorem take_xa {base c : Nat} {w : World} {f b m : Nat} {own : Int → Own} {fs : FS} (h : FlsT base c w f b m own fs) (k v : ByteArray) (hk : k.size ≤ 140737488351232) (hv : v.size ≤ 140737488351232) (hlow : base ≤ w.heap.size) (hK : isKey k) (hkind : (rawKey k).1 = 120) (hc : c < 1099511627776) (a : NodeA) (ha : fs.N (rawKey k).2.1 = some a) :
 Calls Tryz.prog 45 #[Pa f,.agg #[.string k,.string v]] w (TakeEnds base c w f b m fs k v):=by
 have hq : itS fs k v = open Classical in (if nameB (rawKey k).2.2.1 = true ∧ v.size ≤ 120 then some { fs with N:=upd fs.N (rawKey k).2.1 { a with at_:=updK a.at_ (rawKey k).2.2.1 v } } else none):=by
  unfold itS parseK
  rw [dif_pos hK,if_neg (by omega),if_neg (by omega),if_neg (by omega),if_pos hkind]
  simp only [ha]
 have hP:=Lib.hid (fun W=>pkey_is hK W hk)
 rw [hkind] at hP
 have hwf:=key_wf hK
 have hinf:=Lib.hid (key_parts hK)
 generalize (rawKey k).2.1 = ino at *
 generalize (rawKey k).2.2.1 = name at *
 generalize (rawKey k).2.2.2.1 = ix at *
 have H:=Lib.hid h
 have HQ:=Lib.hid hq
 have hX:=Blk.new w 59 #[.string k,.string v]
 have hb0 : Below w.heap.size w (w.alloc (.cells #[.string k,.string v] 59)):=(Below.refl _ _).alloc (Nat.le_refl _) _
 have HB0:=Lib.hid hb0
 have HX:=Lib.hid hX
 clear hb0 h hq hX
 go_enter Tryz.func45,Tryz.ntmps45
 go_wp2_with (go_at_call 93; refine (hP.out _).mono ?_; rintro e w1 ⟨rfl,hb⟩; have HB:=Lib.hid (bl_t HB0.out hb); have HX1:=Lib.hid (blk_below HX.out hb); clear hb)
 have hF:=H.out.below (HB.out.alloc HB.out.size (.cells #[.int .u8 120,.int .i64 ino,.string name,.int .i64 ix] 99))
 have hL:=look_nodes hF ino hwf
 have hKB:=Blk.new w1 99 #[.int .u8 120,.int .i64 ino,.string name,.int .i64 ix]
 obtain ⟨k0,k1,k2,k3⟩:=@key_cells w1 120 ino ix name
 have d1 : (w1.alloc (.cells #[.int .u8 120,.int .i64 ino,.string name,.int .i64 ix] 99)).cell? ⟨f,1,none⟩ = some (.map (some b)):=hF.blk.cell 1
 have hx2:=HX1.out.alloc (.cells #[.int .u8 120,.int .i64 ino,.string name,.int .i64 ix] 99)
 have HF:=Lib.hid hF
 have HB2:=Lib.hid (HB.out.alloc HB.out.size (.cells #[.int .u8 120,.int .i64 ino,.string name,.int .i64 ix] 99))
 have HKB:=Lib.hid hKB
 have HX2:=Lib.hid hx2
 clear hF hx2 hKB
 generalize w1.alloc (.cells #[.int .u8 120,.int .i64 ino,.string name,.int .i64 ix] 99) = w2 at *
 generalize w1.heap.size = kb at *
 go_quiet (fail)
 have HB3:=Lib.hid (below_drewN HB2.out nq)
 have HF3:=Lib.hid (HF.out.below (below_drewN (Below.refl _ _) nq))
 have HKB3:=Lib.hid (HKB.out.drewN nq)
 have HX3:=Lib.hid (HX2.out.drewN nq)
 have x1 : (w2.drewN nq).cell? ⟨w.heap.size,1,none⟩ = some (.string v):=HX3.out.cell 1
 have q0 : (w2.drewN nq).cell? ⟨kb,0,none⟩ = some (.int .u8 120):=k0
 have q1 : (w2.drewN nq).cell? ⟨kb,1,none⟩ = some (.int .i64 ino):=k1
 have q2 : (w2.drewN nq).cell? ⟨kb,2,none⟩ = some (.string name):=k2
 have q3 : (w2.drewN nq).cell? ⟨kb,3,none⟩ = some (.int .i64 ix):=k3
 clear hL k0 k1 k2 k3 d1 HB2 HF HKB HX2
 generalize w2.drewN nq = w3 at *
 try simp only [ha,Option.map_some,Option.getD_some]
 have hNA:=HF3.out.node ino a ha
 have e2 : w3.cell? ⟨(own ino).g,7,none⟩ = some (.map (some (own ino).ab)):=hNA.blk.cell 7
 obtain ⟨an,xan,yan⟩:=hNA.att
 obtain ⟨w4,hrun,hm4,hk4,hs4⟩:=(yan.drew).store (encS_string Tryz.underlying9) Tryz.underlying133 (by unfold maxLen; omega) name (by have:=hinf.out; unfold maxLen; omega) (.string v)
 obtain ⟨es,cl,ho⟩:=yan.obj
 have hng : (own ino).g ≠ (own ino).ab:=blk_ne_map hNA.blk ho
 have i2 : w4.cell? ⟨(own ino).g,7,none⟩ = some (.map (some (own ino).ab)):=(hNA.blk.drew.keep hk4 hng).cell 7
 have hkb4:=HKB3.out.drew.keep hk4 (blk_ne_map HKB3.out ho)
 have hx4:=HX3.out.drew.keep hk4 (blk_ne_map HX3.out ho)
 have i3 : w4.cell? ⟨kb,2,none⟩ = some (.string name):=hkb4.cell 2
 have i4 : w4.cell? ⟨w.heap.size,1,none⟩ = some (.string v):=hx4.cell 1
 have hx4k:=hx4
 have hF4:=(HF3.out.below (Below.refl w3.heap.size w3).drew).att_ ino a ha (updK a.at_ name v) hk4 (n:=if (atV a.at_ name).isSome = true then an else an + 1) (by split <;> omega) (by rw [← atV_upd]; exact hm4)
 have hB4 : Below base w w4:=((HB3.out.mono hlow).drew).trans (hk4.to_below (Nat.le_trans hlow HB3.out.size) (fun i hi=>by rw [hi]; exact hNA.lo.2))
 have HF4:=Lib.hid hF4
 have HB4:=Lib.hid hB4
 have hnmc:=Lib.hid (fun W=>pt_name name W (by have:=hinf.out; omega))
 have hvs:=hv
 clear hF4 hB4 hkb4 hx4 hk4 hm4 yan ho hNA
 generalize (own ino).ab = ab at *
 generalize (own ino).g = ga at *
 unfold ptrG
 go_wp2
 go_region_held3 (fun w'=>w'.cell? ⟨kb,2,none⟩ = some (.string name) ∧ w'.cell? ⟨ga,7,none⟩ = some (.map (some ab)) ∧ w'.cell? ⟨w.heap.size,1,none⟩ = some (.string v)) (go_keep) (fail)
 have HHX:=Lib.hid (show Blk w4 w.heap.size 59 #[.string k,.string v] from hx4k)
 clear hrun i2 i3 i4 e2 q0 q1 q2 q3 x1
 generalize hnb : nameB name = nb at *
 have hz : ((v.size : Int) ≤ 120) ↔ v.size ≤ 120:=by omega
 cases nb with
 | true=>
  go_wp2_with (
   go_at_call 52
   refine (hnmc.out _).mono ?_
   rintro e w5 ⟨rfl,hb5⟩
   have y1 : w5.cell? ⟨w.heap.size,1,none⟩ = some (.string v):=(blk_below HHX.out hb5).cell 1
   have HB5:=Lib.hid hb5
   clear hb5)
  go_ret
  refine ⟨HB4.out.trans (HB5.out.mono (Nat.le_trans hlow (Nat.le_of_lt HHX.out.lt))),?_⟩
  by_cases h1 : v.size ≤ 120
  ·exact .inl ⟨_,own,by rw [HQ.out,if_pos ⟨by first | rfl | trivial,h1⟩],by
    show Ending.returned (.bool (decide (v.size ≤ 120))) = _
    rw [decide_eq_true h1],HF4.out.below HB5.out⟩
  ·exact .inr ⟨by rw [HQ.out,if_neg (fun h=>h1 h.2)],by
    show Ending.returned (.bool (decide (v.size ≤ 120))) = _
    rw [decide_eq_false h1]⟩
 | false=>
  go_wp2_with (
   go_at_call 52
   refine (hnmc.out _).mono ?_
   rintro e w5 ⟨rfl,hb5⟩
   have HB5:=Lib.hid hb5
   clear hb5)
  go_ret
  refine ⟨HB4.out.trans (HB5.out.mono (Nat.le_trans hlow (Nat.le_of_lt HHX.out.lt))),?_⟩
  exact .inr ⟨by rw [HQ.out,if_neg (by simp)],rfl⟩
set_option maxRecDepth 100000 in
set_option maxHeartbeats 2000000 in
theorem take_nopc {base c : Nat} {w : World} {f b m : Nat} {own : Int → Own} {fs : FS} (h : FlsT base c w f b m own fs) (k v : ByteArray) (hk : k.size ≤ 140737488351232) (_hv : v.size ≤ 140737488351232) (hlow : base ≤ w.heap.size) (hK : isKey k) (hkind : (rawKey k).1 = 112) (ha : fs.N (rawKey k).2.1 = none) :
 Calls Tryz.prog 45 #[Pa f,.agg #[.string k,.string v]] w (TakeEnds base c w f b m fs k v):=by
 have hq : itS fs k v = none:=by
  unfold itS parseK
  rw [dif_pos hK,if_neg (by omega),if_neg (by omega),if_neg (by omega)]
  first
   |(rw [if_pos hkind]; simp only [ha])
   |(rw [if_neg (by omega)]; simp only [ha])
 have hP:=Lib.hid (fun W=>pkey_is hK W hk)
 rw [hkind] at hP
 have hwf:=key_wf hK
 have hinf:=Lib.hid (key_parts hK)
 generalize (rawKey k).2.1 = ino at *
 generalize (rawKey k).2.2.1 = name at *
 generalize (rawKey k).2.2.2.1 = ix at *
 have H:=Lib.hid h
 have HQ:=Lib.hid hq
 have hX:=Blk.new w 59 #[.string k,.string v]
 have hb0 : Below w.heap.size w (w.alloc (.cells #[.string k,.string v] 59)):=(Below.refl _ _).alloc (Nat.le_refl _) _
 have HB0:=Lib.hid hb0
 have HX:=Lib.hid hX
 clear hb0 h hq hX
 go_enter Tryz.func45,Tryz.ntmps45
 go_wp2_with (go_at_call 93; refine (hP.out _).mono ?_; rintro e w1 ⟨rfl,hb⟩; have HB:=Lib.hid (bl_t HB0.out hb); have HX1:=Lib.hid (blk_below HX.out hb); clear hb)
 have hF:=H.out.below (HB.out.alloc HB.out.size (.cells #[.int .u8 112,.int .i64 ino,.string name,.int .i64 ix] 99))
 have hL:=look_nodes hF ino hwf
 have hKB:=Blk.new w1 99 #[.int .u8 112,.int .i64 ino,.string name,.int .i64 ix]
 obtain ⟨k0,k1,k2,k3⟩:=@key_cells w1 112 ino ix name
 have d1 : (w1.alloc (.cells #[.int .u8 112,.int .i64 ino,.string name,.int .i64 ix] 99)).cell? ⟨f,1,none⟩ = some (.map (some b)):=hF.blk.cell 1
 have hx2:=HX1.out.alloc (.cells #[.int .u8 112,.int .i64 ino,.string name,.int .i64 ix] 99)
 have HF:=Lib.hid hF
 have HB2:=Lib.hid (HB.out.alloc HB.out.size (.cells #[.int .u8 112,.int .i64 ino,.string name,.int .i64 ix] 99))
 have HKB:=Lib.hid hKB
 have HX2:=Lib.hid hx2
 clear hF hx2 hKB
 generalize w1.alloc (.cells #[.int .u8 112,.int .i64 ino,.string name,.int .i64 ix] 99) = w2 at *
 generalize w1.heap.size = kb at *
 go_quiet (fail)
 have HB3:=Lib.hid (below_drewN HB2.out nq)
 have HF3:=Lib.hid (HF.out.below (below_drewN (Below.refl _ _) nq))
 have HKB3:=Lib.hid (HKB.out.drewN nq)
 have HX3:=Lib.hid (HX2.out.drewN nq)
 have x1 : (w2.drewN nq).cell? ⟨w.heap.size,1,none⟩ = some (.string v):=HX3.out.cell 1
 have q0 : (w2.drewN nq).cell? ⟨kb,0,none⟩ = some (.int .u8 112):=k0
 have q1 : (w2.drewN nq).cell? ⟨kb,1,none⟩ = some (.int .i64 ino):=k1
 have q2 : (w2.drewN nq).cell? ⟨kb,2,none⟩ = some (.string name):=k2
 have q3 : (w2.drewN nq).cell? ⟨kb,3,none⟩ = some (.int .i64 ix):=k3
 clear hL k0 k1 k2 k3 d1 HB2 HF HKB HX2
 generalize w2.drewN nq = w3 at *
 try simp only [ha,Option.map_none,Option.getD_none]
 go_wp2
 go_ret
 exact ⟨HB3.out.mono hlow,.inr ⟨HQ.out,rfl⟩⟩
set_option maxRecDepth 100000 in
set_option maxHeartbeats 2000000 in
theorem take_noxa {base c : Nat} {w : World} {f b m : Nat} {own : Int → Own} {fs : FS} (h : FlsT base c w f b m own fs) (k v : ByteArray) (hk : k.size ≤ 140737488351232) (_hv : v.size ≤ 140737488351232) (hlow : base ≤ w.heap.size) (hK : isKey k) (hkind : (rawKey k).1 = 120) (ha : fs.N (rawKey k).2.1 = none) :
 Calls Tryz.prog 45 #[Pa f,.agg #[.string k,.string v]] w (TakeEnds base c w f b m fs k v):=by
 have hq : itS fs k v = none:=by
  unfold itS parseK
  rw [dif_pos hK,if_neg (by omega),if_neg (by omega),if_neg (by omega)]
  first
   |(rw [if_pos hkind]; simp only [ha])
   |(rw [if_neg (by omega)]; simp only [ha])
 have hP:=Lib.hid (fun W=>pkey_is hK W hk)
 rw [hkind] at hP
 have hwf:=key_wf hK
 have hinf:=Lib.hid (key_parts hK)
 generalize (rawKey k).2.1 = ino at *
 generalize (rawKey k).2.2.1 = name at *
 generalize (rawKey k).2.2.2.1 = ix at *
 have H:=Lib.hid h
 have HQ:=Lib.hid hq
 have hX:=Blk.new w 59 #[.string k,.string v]
 have hb0 : Below w.heap.size w (w.alloc (.cells #[.string k,.string v] 59)):=(Below.refl _ _).alloc (Nat.le_refl _) _
 have HB0:=Lib.hid hb0
 have HX:=Lib.hid hX
 clear hb0 h hq hX
 go_enter Tryz.func45,Tryz.ntmps45
 go_wp2_with (go_at_call 93; refine (hP.out _).mono ?_; rintro e w1 ⟨rfl,hb⟩; have HB:=Lib.hid (bl_t HB0.out hb); have HX1:=Lib.hid (blk_below HX.out hb); clear hb)
 have hF:=H.out.below (HB.out.alloc HB.out.size (.cells #[.int .u8 120,.int .i64 ino,.string name,.int .i64 ix] 99))
 have hL:=look_nodes hF ino hwf
 have hKB:=Blk.new w1 99 #[.int .u8 120,.int .i64 ino,.string name,.int .i64 ix]
 obtain ⟨k0,k1,k2,k3⟩:=@key_cells w1 120 ino ix name
 have d1 : (w1.alloc (.cells #[.int .u8 120,.int .i64 ino,.string name,.int .i64 ix] 99)).cell? ⟨f,1,none⟩ = some (.map (some b)):=hF.blk.cell 1
 have hx2:=HX1.out.alloc (.cells #[.int .u8 120,.int .i64 ino,.string name,.int .i64 ix] 99)
 have HF:=Lib.hid hF
 have HB2:=Lib.hid (HB.out.alloc HB.out.size (.cells #[.int .u8 120,.int .i64 ino,.string name,.int .i64 ix] 99))
 have HKB:=Lib.hid hKB
 have HX2:=Lib.hid hx2
 clear hF hx2 hKB
 generalize w1.alloc (.cells #[.int .u8 120,.int .i64 ino,.string name,.int .i64 ix] 99) = w2 at *
 generalize w1.heap.size = kb at *
 go_quiet (fail)
 have HB3:=Lib.hid (below_drewN HB2.out nq)
 have HF3:=Lib.hid (HF.out.below (below_drewN (Below.refl _ _) nq))
 have HKB3:=Lib.hid (HKB.out.drewN nq)
 have HX3:=Lib.hid (HX2.out.drewN nq)
 have x1 : (w2.drewN nq).cell? ⟨w.heap.size,1,none⟩ = some (.string v):=HX3.out.cell 1
 have q0 : (w2.drewN nq).cell? ⟨kb,0,none⟩ = some (.int .u8 120):=k0
 have q1 : (w2.drewN nq).cell? ⟨kb,1,none⟩ = some (.int .i64 ino):=k1
 have q2 : (w2.drewN nq).cell? ⟨kb,2,none⟩ = some (.string name):=k2
 have q3 : (w2.drewN nq).cell? ⟨kb,3,none⟩ = some (.int .i64 ix):=k3
 clear hL k0 k1 k2 k3 d1 HB2 HF HKB HX2
 generalize w2.drewN nq = w3 at *
 try simp only [ha,Option.map_none,Option.getD_none]
 go_wp2
 go_ret
 exact ⟨HB3.out.mono hlow,.inr ⟨HQ.out,rfl⟩⟩
end Go.Proofs.YtpboohfofodeeaaGreatDoor
/- A slice that reads as a list, nil let in; append onto a row of the call's own from whatever source (conditions: none). -/
namespace Go.Proofs.YtpboohfofodeeaaGreatDoor
open Go.RowKit
theorem block_of_add (a : Addr) (n : Nat) : (a.add n).block = a.block:=by unfold Addr.add; split <;> rfl
theorem add_of_add (a : Addr) (i j : Nat) : (a.add i).add j = a.add (i + j):=by
 unfold Addr.add
 by_cases hi : i = 0 <;> by_cases hj : j = 0 <;> simp [hi,hj,Nat.add_assoc]

def Reads (w : World) (B size : Nat) (A : Option Addr) (n : Nat) (xs : List Value) : Prop:=
 xs.length = n * size ∧ (0 < n → ∃ ad,A = some ad ∧ ad.block < B ∧ ∀ j u,xs[j]? = some u → w.cell? (ad.add j) = some u)

section
variable {w w' : World} {B B' size n : Nat} {A : Option Addr} {xs : List Value}
theorem Reads.none_ : Reads w B size A 0 []:=⟨by simp,fun h=>absurd h (by omega)⟩
theorem Reads.at_ {k : Nat} (h : Reads w B 1 A n xs) (hk : k < n) : ∃ ad u,A = some ad ∧ ad.block < B ∧ xs[k]? = some u ∧ w.cell? (ad.add k) = some u:=by
 obtain ⟨ad,e,hb,hc⟩:=h.2 (by omega)
 have hl : k < xs.length:=by have:=h.1; omega
 exact ⟨ad,xs[k],e,hb,List.getElem?_eq_getElem hl,hc k _ (List.getElem?_eq_getElem hl)⟩
theorem Reads.keep (h : Reads w B size A n xs) (hk : ∀ p : Addr,p.block < B → w'.cell? p = w.cell? p) : Reads w' B size A n xs:=
 ⟨h.1,fun hn=>by
  obtain ⟨ad,e,hb,hc⟩:=h.2 hn
  exact ⟨ad,e,hb,fun j u hu=>(hk _ (by rw [block_of_add]; exact hb)).trans (hc j u hu)⟩⟩
theorem Reads.more (h : Reads w B size A n xs) (hB : B ≤ B') : Reads w B' size A n xs:=
 ⟨h.1,fun hn=>by
  obtain ⟨ad,e,hb,hc⟩:=h.2 hn
  exact ⟨ad,e,by omega,hc⟩⟩
theorem Reads.below (h : Reads w B size A n xs) (hb : Below B w w') : Reads w' B size A n xs:=h.keep fun _ hp=>hb.cell hp
theorem Reads.drew (h : Reads w B size A n xs) : Reads w.drew B size A n xs:=h
theorem Reads.drewN (h : Reads w B size A n xs) (k : Nat) : Reads (w.drewN k) B size A n xs:=h
theorem Reads.alloc (h : Reads w B size A n xs) (hB : B ≤ w.heap.size) (o : Obj) : Reads (w.alloc o) B size A n xs:=h.keep fun p hp=>World.cell?_alloc_lt w o p (by omega)
theorem Reads.setCell (h : Reads w B size A n xs) {p : Addr} (hB : B ≤ p.block) (u : Value) : Reads (w.setCell p u) B size A n xs:=
 h.keep fun q hq=>World.cell?_setCell_other w p q u (fun e=>by subst e; omega)
theorem Reads.grown (h : Reads w B size A n xs) {row : Option Nat} (hg : w.grownBy w' row) (hB : B ≤ w.heap.size) (hr : ∀ g,row = some g → B ≤ g) : Reads w' B size A n xs:=
 h.keep fun p hp=>World.cell?_of_block (hg.block p.block (by omega) (fun e=>by have:=hr _ e.symm; omega))
theorem Reads.cut (h : Reads w B size A n xs) {k cap : Nat} (hk : k ≤ n) (hc : n ≤ cap) :
 Reads w B size (if cap = k then A else A.map (·.add (k * size))) (n - k) (xs.drop (k * size)):=by
 refine ⟨by rw [List.length_drop,h.1,Nat.sub_mul],fun hn=>?_⟩
 obtain ⟨ad,rfl,hb,hcell⟩:=h.2 (by omega)
 rw [if_neg (by omega)]
 refine ⟨ad.add (k * size),rfl,by rw [block_of_add]; exact hb,fun j u hu=>?_⟩
 rw [add_of_add]
 exact hcell _ u (by rw [← hu,List.getElem?_drop])
theorem Reads.of_own {base : Nat} {e : TypeId} {c : Nat} (h : w.ownsRow base e size (.slice A n c) n xs) : Reads w w.heap.size size A n xs:=by
 refine ⟨h.1,fun hn=>?_⟩
 obtain ⟨g,cap,hv,_,hlt⟩:=h.form hn
 have hA : A = some ⟨g,0,none⟩:=by injection hv
 subst hA
 exact ⟨_,rfl,hlt,h.cells (g:=g) rfl⟩
end

section
variable {P : Program} (w : World)

theorem run_append_of_nil (base : Nat) (t ty e : TypeId) (i : TypeInfo) (size : Nat) (ht : P.underlying t = some (.slice e)) (hi : P.info? e = some i)
 (v : Value) (n : Nat) (xs : List Value) (hown : w.ownsRow base e size v n xs) (c : Nat) : (Builtin.append_ #[t,t] ty #[v,.slice none 0 c]).run P w = .ok v w:=by
 rcases hown.2 with ⟨rfl,rfl⟩ | ⟨g,cap,cur,rfl,_,_,hnc,_⟩
 ·simp [Builtin.append_,run_underlying ht,sizeOf,typeInfo,hi,Builtin.lenOf,Builtin.firstCells]
 ·simp [Builtin.append_,run_underlying ht,sizeOf,typeInfo,hi,Builtin.lenOf,Builtin.firstCells,hnc,storeCells]

theorem run_append_any (base : Nat) (t ty e : TypeId) (i : TypeInfo) (z : Value) (size bytes : Nat) (ht : P.underlying t = some (.slice e)) (hi : P.info? e = some i) (hz : i.zero = some z)
 (hsize : i.size = size) (hby : i.bytes = bytes) (hzs : z.cells.size = size) (hsz : 0 < size)
 (v : Value) (n : Nat) (xs : List Value) (hown : w.ownsRow base e size v n xs)
 (B : Nat) (A : Option Addr) (m c : Nat) (news : List Value) (hr : Reads w B size A m news) (h1 : ∀ u ∈ news,u.oneCell' = true)
 (h63 : n + m ≤ maxLen) (hbytes : (n + m) * bytes ≤ 140737488355328) (hbase : base ≤ w.heap.size) :
 ∃ v' w',(Builtin.append_ #[t,t] ty #[v,.slice A m c]).run P w = .ok v' w' ∧ w'.ownsRow base e size v' (n + m) (xs ++ news) ∧ w.grownBy w' v.ownBlock ∧
  (v'.ownBlock = v.ownBlock ∨ v'.ownBlock = some w.heap.size):=by
 rcases A with _ | ad
 ·have hm : m = 0:=by
   rcases Nat.eq_zero_or_pos m with h0 | h0
   ·exact h0
   ·obtain ⟨ad,h,_⟩:=hr.2 h0
    cases h
  subst hm
  have hn : news = []:=List.eq_nil_of_length_eq_zero (by simpa using hr.1)
  subst hn
  exact ⟨v,w,run_append_of_nil w base t ty e i size ht hi v n xs hown c,by simpa using hown,World.grownBy.refl w _,.inl rfl⟩
 ·have hcells : ∀ j u,news[j]? = some u → w.cell? (ad.add j) = some u:=by
   intro j u hu
   rcases Nat.eq_zero_or_pos m with h0 | h0
   ·subst h0
    have hn : news = []:=List.eq_nil_of_length_eq_zero (by simpa using hr.1)
    subst hn
    simp at hu
   ·obtain ⟨ad',h,_,hc⟩:=hr.2 h0
    injection h with h
    subst h
    exact hc j u hu
  obtain ⟨v',w',hrun,h2,h3,_,h5⟩:=run_append_own_at (P:=P) w base t ty e i z size bytes ht hi hz hsize hby hzs hsz v n xs hown ad m c news hr.1 hcells h1 h63 hbytes hbase
  exact ⟨v',w',hrun,h2,h3,h5⟩

theorem wp_append_any {o : Oper} {a : Act} {K : Act → World → Prop} {Q : Exit → Act → World → Prop} (s x : Operand) (t : TypeId)
 (ho : o.op = .call { callee:=.builtin .append,args:=#[s,x],argTypes:=#[t,t] })
 (base : Nat) (e : TypeId) (i : TypeInfo) (z : Value) (size bytes : Nat) (ht : P.underlying t = some (.slice e)) (hi : P.info? e = some i) (hz : i.zero = some z)
 (hsize : i.size = size) (hby : i.bytes = bytes) (hzs : z.cells.size = size) (hsz : 0 < size)
 (v : Value) (n : Nat) (xs : List Value) (hs : a.eval s = v) (hown : w.ownsRow base e size v n xs)
 (B : Nat) (A : Option Addr) (m c : Nat) (news : List Value) (hx : a.eval x = .slice A m c) (hr : Reads w B size A m news) (h1 : ∀ u ∈ news,u.oneCell' = true)
 (h63 : n + m ≤ maxLen) (hbytes : (n + m) * bytes ≤ 140737488355328) (hbase : base ≤ w.heap.size)
 (h : ∀ v' w',w'.ownsRow base e size v' (n + m) (xs ++ news) → w.grownBy w' v.ownBlock → (v'.ownBlock = v.ownBlock ∨ v'.ownBlock = some w.heap.size) → K (a.put o.dst v') w') : o.wp P a w K Q:=by
 obtain ⟨v',w',hrun,h2,h3,h4⟩:=run_append_any (P:=P) w base t o.type e i z size bytes ht hi hz hsize hby hzs hsz v n xs hown B A m c news hr h1 h63 hbytes hbase
 unfold Oper.wp execOp
 simp only [ho,resolve,invoke,builtin,Sem.run_bind,Sem.run_pure,Result.andThen_ok,List.map_toArray,List.map_cons,List.map_nil,hs,hx,hrun]
 exact h v' w' h2 h3 h4

theorem wpList_append_any {ops : Array Oper} {rest : List Oper} {o : Oper} {a : Act} {Q : Exit → Act → World → Prop} (hgd : o.guard = none) (s x : Operand) (t : TypeId)
 (ho : o.op = .call { callee:=.builtin .append,args:=#[s,x],argTypes:=#[t,t] })
 (base : Nat) (e : TypeId) (i : TypeInfo) (z : Value) (size bytes : Nat) (ht : P.underlying t = some (.slice e)) (hi : P.info? e = some i) (hz : i.zero = some z)
 (hsize : i.size = size) (hby : i.bytes = bytes) (hzs : z.cells.size = size) (hsz : 0 < size)
 (v : Value) (n : Nat) (xs : List Value) (hs : a.eval s = v) (hown : w.ownsRow base e size v n xs)
 (B : Nat) (A : Option Addr) (m c : Nat) (news : List Value) (hx : a.eval x = .slice A m c) (hr : Reads w B size A m news) (h1 : ∀ u ∈ news,u.oneCell' = true)
 (h63 : n + m ≤ maxLen) (hbytes : (n + m) * bytes ≤ 140737488355328) (hbase : base ≤ w.heap.size)
 (h : ∀ v' w',w'.ownsRow base e size v' (n + m) (xs ++ news) → w.grownBy w' v.ownBlock → (v'.ownBlock = v.ownBlock ∨ v'.ownBlock = some w.heap.size) → wpList P ops Q rest (a.put o.dst v') w') : wpList P ops Q (o :: rest) a w:=
 wpList_plain hgd fun _ hK=>wp_append_any w s x t ho base e i z size bytes ht hi hz hsize hby hzs hsz v n xs hs hown B A m c news hx hr h1 h63 hbytes hbase fun v' w' h2 h3 h4=>hK _ _ (h v' w' h2 h3 h4)

theorem step_append_any {ops : Array Oper} {o : Oper} {a : Act} {K : Act → World → Prop} {Q : Exit → Act → World → Prop} {E : Prop} (hgd : o.guard = none) (s x : Operand) (t : TypeId)
 (ho : o.op = .call { callee:=.builtin .append,args:=#[s,x],argTypes:=#[t,t] })
 (base : Nat) (e : TypeId) (i : TypeInfo) (z : Value) (size bytes : Nat) (ht : P.underlying t = some (.slice e)) (hi : P.info? e = some i) (hz : i.zero = some z)
 (hsize : i.size = size) (hby : i.bytes = bytes) (hzs : z.cells.size = size) (hsz : 0 < size)
 (v : Value) (n : Nat) (xs : List Value) (hs : a.eval s = v) (hown : w.ownsRow base e size v n xs)
 (B : Nat) (A : Option Addr) (m c : Nat) (news : List Value) (hx : a.eval x = .slice A m c) (hr : Reads w B size A m news) (h1 : ∀ u ∈ news,u.oneCell' = true)
 (h63 : n + m ≤ maxLen) (hbytes : (n + m) * bytes ≤ 140737488355328) (hbase : base ≤ w.heap.size)
 (h : ∀ v' w',w'.ownsRow base e size v' (n + m) (xs ++ news) → w.grownBy w' v.ownBlock → (v'.ownBlock = v.ownBlock ∨ v'.ownBlock = some w.heap.size) → K (a.put o.dst v') w') :
 if Region.wanted o (yielded ops a.tmps) = true then Oper.wp P o a w K Q else E:=by
 have hw : Region.wanted o (yielded ops a.tmps) = true:=by simp [Region.wanted,hgd]
 rw [if_pos hw]
 exact wp_append_any w s x t ho base e i z size bytes ht hi hz hsize hby hzs hsz v n xs hs hown B A m c news hx hr h1 h63 hbytes hbase h
end
end Go.Proofs.YtpboohfofodeeaaGreatDoor
