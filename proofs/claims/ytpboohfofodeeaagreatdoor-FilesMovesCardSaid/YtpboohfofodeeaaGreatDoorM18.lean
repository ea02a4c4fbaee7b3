/- files: walk (conditions: none). -/
import Derived.Test.YtpboohfofodeeaaGreatDoorM17
namespace Go.Proofs.YtpboohfofodeeaaGreatDoor
open Go.RowKit Go.Maps
def lenV : Value → Nat
 | .slice _ n _=>n
 | _=>0
theorem walk_results {tm : Array Value} {W : World} {b : Nat} {r : WR} (h2 : tm.getD 6 undef = .pointer (some ⟨b,0,none⟩)) (h7 : tm.getD 7 undef = .int .i64 r.code) (hB : Blk W b 119 #[.int .i64 r.dir,.string r.name,.int .i64 r.ino]) :
 (results Tryz.f53 tm).run Tryz.prog W = .ok (.tuple #[spotC r.dir r.name r.ino,.int .i64 r.code]) W:=by
 have c0 : W.cell? ⟨b,0,none⟩ = some (.int .i64 r.dir):=hB.cell 0
 have c1 : W.cell? ⟨b,1,none⟩ = some (.string r.name):=hB.cell 1
 have c2 : W.cell? ⟨b,2,none⟩ = some (.int .i64 r.ino):=hB.cell 2
 unfold spotC
 clear hB
 rw [Array.getD_eq_getD_getElem?] at h2 h7
 simp [results,Tryz.results53,go_sem, *]
def spotW (w : World) (b : Nat) (d : Int) (n : ByteArray) (i : Int) : World:=((w.setCell ⟨b,0,none⟩ (.int .i64 d)).setCell ⟨b,1,none⟩ (.string n)).setCell ⟨b,2,none⟩ (.int .i64 i)
theorem spot_set {w : World} {b : Nat} {d d' i i' : Int} {n n' : ByteArray} (h : Blk w b 119 #[.int .i64 d,.string n,.int .i64 i]) : Blk (spotW w b d' n' i') b 119 #[.int .i64 d',.string n',.int .i64 i']:=by
 have h1:=((h.set_ 0 (.int .i64 d')).set_ 1 (.string n')).set_ 2 (.int .i64 i')
 unfold spotW
 simpa using h1
theorem spot_below {w w' : World} {B b : Nat} {d i : Int} {n : ByteArray} (h : Below B w w') (hb : B ≤ b) : Below B w (spotW w' b d n i):=((h.setCell (p:=⟨b,0,none⟩) hb _).setCell (p:=⟨b,1,none⟩) hb _).setCell (p:=⟨b,2,none⟩) hb _
theorem strV_append (a b : List ByteArray) : strV (a ++ b) = strV a ++ strV b:=by simp [strV]
theorem strV_one (a : List ByteArray) : ∀ u ∈ strV a,u.oneCell' = true:=by
 intro u hu
 obtain ⟨x,_,rfl⟩:=List.mem_map.1 hu
 rfl
/-- The names' lookup. -/
theorem FlsB.lookG [Fence] {c : Nat} {w : World} {f b m : Nat} {own : Int → Own} {fs : FS} (h : FlsB c w f b m own fs) {d : Int} {nm : ByteArray} (hk : okSl (d,nm)) (n : Nat) :
 (Instr.lookup 89 (.map (some m)) (.agg #[.int .i64 d,.string nm]) true).run Tryz.prog (w.drewN n) = .ok (.tuple #[.int .i64 ((atG fs.G d nm).getD 0),.bool (atG fs.G d nm).isSome]) (w.drewN n):=by
 obtain ⟨k,_,hm⟩:=h.names
 have hz : (zeroValue 3).run Tryz.prog (w.drewN n) = .ok (.int .i64 0) (w.drewN n):=by simp [go_sem]
 have hl:=(hm.drewN n).look slot_enc Tryz.underlying89 hz true ⟨(d,nm),hk⟩ trivial
 rw [atG_of hk]
 have e : (nmV fs.G ⟨(d,nm),hk⟩) = (fs.G ⟨(d,nm),hk⟩).map (Value.int .i64):=rfl
 rw [e] at hl
 cases hg : fs.G ⟨(d,nm),hk⟩ with
 | none=>rw [hg] at hl; exact hl
 | some i=>rw [hg] at hl; exact hl
theorem FlsB.lookN [Fence] {c : Nat} {w : World} {f b m : Nat} {own : Int → Own} {fs : FS} (h : FlsB c w f b m own fs) (ino : Int) (hw : (Lit.int .i64 ino).wf = true) (n : Nat) :
 (Instr.lookup 88 (.map (some b)) (.int .i64 ino) false).run Tryz.prog (w.drewN n) = .ok (((fs.N ino).map fun _=>ptrG (own ino).g).getD (.pointer none)) (w.drewN n):=by
 obtain ⟨_,_,hm⟩:=h.nodes
 exact nodes_look (w:=w.drewN n) (hm.drewN n) ino hw
set_option maxRecDepth 100000 in
set_option maxHeartbeats 8000000 in
theorem fw_walk [Fence] {c : Nat} {w : World} {f b m : Nat} {own : Int → Own} {fs : FS} (h : FlsB c w f b m own fs) (hR : RightFS fs) (hG : GoodN fs) (hl : LibV w) (p : ByteArray) (fo : Bool) (hp : p.size ≤ 140737488351232) :
 Calls Tryz.prog 53 #[wkV f,.string p,.bool fo] w fun e w'=>e = .returned (.tuple #[spotC (walkS fs p fo).dir (walkS fs p fo).name (walkS fs p fo).ino,.int .i64 (walkS fs p fo).code]) ∧ Below w.heap.size w w':=by
 obtain ⟨R,hRR⟩ : ∃ R,walkS fs p fo = R:=⟨_,rfl⟩
 rw [hRR]
 have hb0 : Below w.heap.size w ((w.alloc (.cells #[Pa f] 78)).alloc (.cells #[.int .i64 0,.string ⟨#[]⟩,.int .i64 0] 119)):=((Below.refl _ _).alloc (Nat.le_refl _) _).alloc (by simp) _
 have hF:=h.below hb0
 have hW:=(Blk.new w 78 #[Pa f]).alloc (.cells #[.int .i64 0,.string ⟨#[]⟩,.int .i64 0] 119)
 have hS:=Blk.new (w.alloc (.cells #[Pa f] 78)) 119 #[.int .i64 0,.string ⟨#[]⟩,.int .i64 0]
 have e1 : (w.alloc (.cells #[Pa f] 78)).heap.size = w.heap.size + 1:=by simp
 rw [e1] at hS
 have HB0:=Lib.hid hb0
 have HL:=Lib.hid (hl.below hb0)
 have HRR:=Lib.hid hRR
 have HR:=Lib.hid hR
 have HG:=Lib.hid hG
 unfold wkV
 clear h hb0 e1 hl hRR hR hG
 go_enter Tryz.func53,Tryz.ntmps53
 go_upto_region 1 with fail
 generalize (w.alloc (.cells #[Pa f] 78)).alloc (.cells #[.int .i64 0,.string ⟨#[]⟩,.int .i64 0] 119) = w1 at *
 have HF:=Lib.hid hF
 have HW:=Lib.hid hW
 have HS:=Lib.hid hS
 have HSP:=Lib.hid (split_few p)
 unfold walkS at HRR
 have hsp:=Lib.hid (pt_split p w1 HL.out hp)
 generalize splitP p = sp at HRR hsp HSP
 obtain ⟨spl,sps⟩:=sp
 clear hF hW hS
 go_wp2
 go_step3
 go_wp2_with (go_at_call 50; refine hsp.out.mono ?_; rintro e w2 ⟨⟨A0,n0,rfl,hn0⟩,hb2⟩; have HN0:=Lib.hid hn0.1; have HB2:=Lib.hid hb2; clear hn0 hb2)
 go_step3
 go_wp2
 go_loopw [8,10,11] (fun v8 v10 v11 wr=>∃ (A : Option Addr) (n q left : Nat) (l : List ByteArray) (dir : Int),v8 = .slice A n q ∧ v10 = .int .i64 dir ∧ v11 = .int .i64 left ∧ n ≤ q ∧ left ≤ 8 ∧ n + 32 * left ≤ 288 ∧ (Lit.int .i64 dir).wf = true ∧ Below w2.heap.size w2 wr ∧ Hid (RdV wr A n (strV l)) ∧ Hid (∀ x ∈ l,x.size ≤ 4294967280) ∧ Hid (isDir fs dir) ∧ Hid (walkIn fs fo (walkK fs fo left) l dir = R)) (fun v8 _ v11 _=>1000 * (intOf v11).toNat + lenV v8)
 case atStart=>
  have:=HN0.out.1
  have:=HSP.out.1
  simp only [strV,List.length_map] at *
  exact ⟨A0,n0,n0,8,spl,1,rfl,rfl,rfl,Nat.le_refl _,by omega,by omega,by decide,Below.refl _ _,HN0,Lib.hid HSP.out.2,Lib.hid HR.out.rooted.2,HRR⟩
 case round=>
  obtain ⟨A,n,q,left,l,dir,rfl,rfl,rfl,hnq,hleft,hlen,hwf,hb,HN,HZ,HD,HE⟩:=hrel
  have HB:=Lib.hid (bl_t HB2.out hb)
  have HBw:=Lib.hid hb
  have hw4 : Blk wr w.heap.size 78 #[Pa f]:=blk_below HW.out HB.out
  have d0 : wr.cell? ⟨w.heap.size,0,none⟩ = some (Pa f):=hw4.cell 0
  have hs4 : Blk wr (w.heap.size + 1) 119 #[.int .i64 0,.string ⟨#[]⟩,.int .i64 0]:=blk_below HS.out HB.out
  have HS4:=Lib.hid hs4
  have s0 : wr.cell? ⟨w.heap.size + 1,0,none⟩ = some (.int .i64 0):=hs4.cell 0
  have s1 : wr.cell? ⟨w.heap.size + 1,1,none⟩ = some (.string ⟨#[]⟩):=hs4.cell 1
  have s2 : wr.cell? ⟨w.heap.size + 1,2,none⟩ = some (.int .i64 0):=hs4.cell 2
  have r0:=hs4.frozen 0
  have r1:=hs4.frozen 1
  have r2:=hs4.frozen 2
  have HF4:=Lib.hid (HF.out.below HB.out)
  clear hb hw4 hs4
  cases l with
  | nil=>
   have hn : n = 0:=HN.out.1.symm
   subst hn
   have hE : R = ⟨0,⟨#[]⟩,dir,0⟩:=HE.out.symm
   subst hE
   go_wp2
   rw [Exit.noGoto_ret]
   refine bodyPost_ret (v:=.tuple #[spotC 0 ⟨#[]⟩ dir,.int .i64 0]) ?_ rfl ?_
   ·exact walk_results (r:=⟨0,⟨#[]⟩,dir,0⟩) rfl rfl (spot_set HS4.out)
   ·exact ⟨rfl,spot_below (bl_t HB0.out HB.out) (Nat.le_succ _)⟩
  | cons nm rest=>
   have hn : n = rest.length + 1:=by have:=HN.out.1; simp [strV] at this; omega
   subst hn
   have hcut:=Lib.hid (HN.out.cut (k:=1) (cap:=q) (by omega) hnq)
   obtain ⟨ad,u,rfl,hx,hc⟩:=HN.out.at_ (k:=0) (by omega)
   obtain rfl : u = .string nm:=by simpa [strV] using hx.symm
   have hc0 : wr.cell? ad = some (.string nm):=by simpa [Addr.add] using hc
   have HZ1:=HZ.out nm (by simp)
   have HZ2:=Lib.hid (fun x hx=>HZ.out x (List.mem_cons_of_mem _ hx) : ∀ x ∈ rest,x.size ≤ 4294967280)
   have hok : okSl (dir,nm):=⟨hwf,by simp only; unfold maxLen; omega⟩
   clear hx HN HZ hc
   have e1 : rest.length + 1 - 1 = rest.length:=rfl
   go_upto_region 6 with fail
   have hcut' : RdV wr (if q = 1 then some ad else some { block:=ad.block,off:=ad.off + 1 }) rest.length (strV rest):=by
    have h:=hcut.out
    simpa [Addr.add,strV] using h
   have HN:=Lib.hid hcut'
   clear hcut hcut' e1
   generalize (if q = 1 then some ad else some { block:=ad.block,off:=ad.off + 1 } : Option Addr) = A1 at *
   by_cases hup : (nm.toList == [46,46]) = true
   ·have hE:=HE.out
    rw [walkIn_up hup] at hE
    have HE2:=Lib.hid hE
    have hA:=Lib.hid (fw_above HF4.out dir)
    have HDD:=Lib.hid (above_dir HR.out HD.out)
    have HAD:=Lib.hid (fun r h=>above_det HR.out HG.out HD.out (r:=r) h)
    unfold wkV at hA
    clear hE HE HD
    go_wp2_with (go_at_call 103; refine hA.out.mono ?_; rintro e w5 ⟨⟨r,rfl,hr⟩,hb5⟩; have HA5:=Lib.hid hr; have HB5:=Lib.hid hb5; clear hr hb5)
    go_roundw
    case rel=>
     have hr1:=HAD.out r HA5.out
     have hwr : (Lit.int .i64 r).wf = true:=by
      rcases HA5.out with ⟨s,_,rfl⟩ | ⟨_,rfl⟩
      ·exact s.2.1
      ·exact hwf
     subst hr1
     exact ⟨A1,rest.length,q - 1,left,rest,_,rfl,rfl,rfl,by omega,hleft,by omega,hwr,bl_t HBw.out HB5.out,Lib.hid (HN.out.below HB5.out),HZ2,HDD,HE2⟩
    case measure=>show _ + rest.length < _ + (rest.length + 1); omega
   ·have hup' : (nm.toList == [46,46]) = false:=by simpa using hup
    go_upto_region 9 with fail
    have hb5 : Below wr.heap.size wr (wr.alloc (.cells #[.int .i64 dir,.string nm] 96)):=(Below.refl _ _).alloc (Nat.le_refl _) _
    have ha5:=Blk.new wr 96 #[.int .i64 dir,.string nm]
    have hz0 : wr.heap.size ≤ (wr.alloc (.cells #[.int .i64 dir,.string nm] 96)).heap.size:=by simp
    clear d0 s0 s1 s2 r0 r1 r2 hc0
    generalize wr.alloc (.cells #[.int .i64 dir,.string nm] 96) = w5 at *
    have HB5:=Lib.hid hb5
    have HF5:=Lib.hid (HF4.out.below hb5)
    have HS5:=Lib.hid (blk_below HS4.out hb5)
    have HN5:=Lib.hid (HN.out.below hb5)
    have HL5:=Lib.hid ((HL.out.below HB.out).below hb5)
    have d0 : w5.cell? ⟨w.heap.size,0,none⟩ = some (Pa f):=(blk_below (blk_below HW.out HB.out) hb5).cell 0
    have f1 : w5.cell? ⟨f,1,none⟩ = some (.map (some b)):=HF5.out.blk.cell 1
    have f2 : w5.cell? ⟨f,2,none⟩ = some (.map (some m)):=HF5.out.blk.cell 2
    have a0 : w5.cell? ⟨wr.heap.size,0,none⟩ = some (.int .i64 dir):=ha5.cell 0
    have a1 : w5.cell? ⟨wr.heap.size,1,none⟩ = some (.string nm):=ha5.cell 1
    have hLG:=HF5.out.lookG hok
    clear hb5 ha5 hz0
    obtain ⟨gi,hgi⟩ : ∃ gi,atG fs.G dir nm = gi:=⟨_,rfl⟩
    rw [hgi] at hLG
    cases gi with
    | none=>
     simp only [Option.getD_none,Option.isSome_none] at hLG
     go_quiet (fail)
     have hbq : Below w5.heap.size w5 (w5.drewN nq):=below_drewN (Below.refl _ _) nq
     have HB6:=Lib.hid (bl_t HB5.out hbq)
     have HF6:=Lib.hid (HF5.out.below hbq)
     have HN6:=Lib.hid (HN5.out.below hbq)
     have HL6:=Lib.hid (HL5.out.below hbq)
     have HS6:=Lib.hid (blk_below HS5.out hbq)
     have e0 : (w5.drewN nq).cell? ⟨w.heap.size,0,none⟩ = some (Pa f):=d0
     have e1 : (w5.drewN nq).cell? ⟨f,1,none⟩ = some (.map (some b)):=f1
     have e2 : (w5.drewN nq).cell? ⟨wr.heap.size,0,none⟩ = some (.int .i64 dir):=a0
     have e3 : (w5.drewN nq).cell? ⟨wr.heap.size,1,none⟩ = some (.string nm):=a1
     have hLN:=HF5.out.lookN 0 (by decide) nq
     have s0 : (w5.drewN nq).cell? ⟨w.heap.size + 1,0,none⟩ = some (.int .i64 0):=HS6.out.cell 0
     have s1 : (w5.drewN nq).cell? ⟨w.heap.size + 1,1,none⟩ = some (.string ⟨#[]⟩):=HS6.out.cell 1
     have s2 : (w5.drewN nq).cell? ⟨w.heap.size + 1,2,none⟩ = some (.int .i64 0):=HS6.out.cell 2
     have r0:=HS6.out.frozen 0
     have r1:=HS6.out.frozen 1
     have r2:=HS6.out.frozen 2
     generalize ((fs.N 0).map fun _=>ptrG (own 0).g).getD (.pointer none) = V at hLN
     clear d0 f1 f2 a0 a1 hLG hbq
     generalize w5.drewN nq = w6 at *
     by_cases h0 : rest.length = 0
     ·have h0' : ((rest.length : Int) + 1 == 1) = true:=by simp; omega
      have hE:=HE.out
      rw [walkIn_last (by simpa using hup) hgi h0] at hE
      go_wp2
      rw [Exit.noGoto_ret]
      refine bodyPost_ret (v:=.tuple #[spotC dir nm 0,.int .i64 0]) ?_ rfl ?_
      ·exact walk_results (r:=⟨dir,nm,0,0⟩) rfl rfl (spot_set HS6.out)
      ·subst hE
       exact ⟨rfl,spot_below (bl_t HB0.out (bl_t HB.out HB6.out)) (Nat.le_succ _)⟩
     ·have h0' : ((rest.length : Int) + 1 == 1) = false:=by simp; omega
      have hE:=HE.out
      rw [walkIn_none (by simpa using hup) hgi h0] at hE
      unfold wrE at hE
      go_wp2
      rw [Exit.noGoto_ret]
      refine bodyPost_ret (v:=.tuple #[spotC 0 ⟨#[]⟩ 0,.int .i64 160]) ?_ rfl ?_
      ·exact walk_results (r:=⟨0,⟨#[]⟩,0,160⟩) rfl rfl (spot_set HS6.out)
      ·subst hE
       exact ⟨rfl,spot_below (bl_t HB0.out (bl_t HB.out HB6.out)) (Nat.le_succ _)⟩
    | some ino=>
     simp only [Option.getD_some,Option.isSome_some] at hLG
     have hgs : fs.G ⟨(dir,nm),hok⟩ = some ino:=(atG_of hok).symm.trans hgi
     have hwi:=HF4.out.wf _ _ hgs
     obtain ⟨a,ha⟩ : ∃ a,fs.N ino = some a:=Option.ne_none_iff_exists'.1 (HR.out.named _ _ hgs).2.2.1
     go_quiet (fail)
     have hbq : Below w5.heap.size w5 (w5.drewN nq):=below_drewN (Below.refl _ _) nq
     have HB6:=Lib.hid (bl_t HB5.out hbq)
     have HF6:=Lib.hid (HF5.out.below hbq)
     have HN6:=Lib.hid (HN5.out.below hbq)
     have HL6:=Lib.hid (HL5.out.below hbq)
     have HS6:=Lib.hid (blk_below HS5.out hbq)
     have e0 : (w5.drewN nq).cell? ⟨w.heap.size,0,none⟩ = some (Pa f):=d0
     have e1 : (w5.drewN nq).cell? ⟨f,1,none⟩ = some (.map (some b)):=f1
     have e2 : (w5.drewN nq).cell? ⟨wr.heap.size,0,none⟩ = some (.int .i64 dir):=a0
     have e3 : (w5.drewN nq).cell? ⟨wr.heap.size,1,none⟩ = some (.string nm):=a1
     have hLN:=HF5.out.lookN ino hwi nq
     have s0 : (w5.drewN nq).cell? ⟨w.heap.size + 1,0,none⟩ = some (.int .i64 0):=HS6.out.cell 0
     have s1 : (w5.drewN nq).cell? ⟨w.heap.size + 1,1,none⟩ = some (.string ⟨#[]⟩):=HS6.out.cell 1
     have s2 : (w5.drewN nq).cell? ⟨w.heap.size + 1,2,none⟩ = some (.int .i64 0):=HS6.out.cell 2
     have r0:=HS6.out.frozen 0
     have r1:=HS6.out.frozen 1
     have r2:=HS6.out.frozen 2
     rw [ha] at hLN
     simp only [Option.map_some,Option.getD_some,ptrG] at hLN
     have k0 : (w5.drewN nq).cell? ⟨(own ino).g,0,none⟩ = some (.int .i64 a.nd.kind):=(HF6.out.node ino a ha).blk.cell 0
     have k5 : (w5.drewN nq).cell? ⟨(own ino).g,5,none⟩ = some (.string a.nd.target):=(HF6.out.node ino a ha).blk.cell 5
     clear d0 f1 f2 a0 a1 hLG hbq
     generalize w5.drewN nq = w6 at *
     have hga:=HG.out ino a ha
     by_cases h3 : a.nd.kind = 3
     ·have h3' : (a.nd.kind == 3) = true:=by simpa using h3
      have htz:=target_size hga h3
      by_cases hfol : rest.length ≠ 0 ∨ fo = true
      ·have hE:=HE.out
       rw [walkIn_link (by simpa using hup) hgi ha h3 hfol] at hE
       have hsp2 : rest.length ≠ 0 ∧ ((rest.length : Int) + 1 == 1) = false ∨ rest.length = 0 ∧ ((rest.length : Int) + 1 == 1) = true ∧ fo = true:=by
        by_cases h0 : rest.length = 0
        ·exact .inr ⟨h0,by simp; omega,hfol.resolve_left (fun h=>h h0)⟩
        ·exact .inl ⟨h0,by simp; omega⟩
       clear hfol HE
       cases left with
       | zero=>
        have hE : wrE 166 = R:=hE
        unfold wrE at hE
        rcases hsp2 with ⟨h0,h0'⟩ | ⟨h0,h0',rfl⟩
        ·go_wp2
         rw [Exit.noGoto_ret]
         refine bodyPost_ret (v:=.tuple #[spotC 0 ⟨#[]⟩ 0,.int .i64 166]) ?_ rfl ?_
         ·exact walk_results (r:=⟨0,⟨#[]⟩,0,166⟩) rfl rfl (spot_set HS6.out)
         ·subst hE
          exact ⟨rfl,spot_below (bl_t HB0.out (bl_t HB.out HB6.out)) (Nat.le_succ _)⟩
        ·go_wp2
         rw [Exit.noGoto_ret]
         refine bodyPost_ret (v:=.tuple #[spotC 0 ⟨#[]⟩ 0,.int .i64 166]) ?_ rfl ?_
         ·exact walk_results (r:=⟨0,⟨#[]⟩,0,166⟩) rfl rfl (spot_set HS6.out)
         ·subst hE
          exact ⟨rfl,spot_below (bl_t HB0.out (bl_t HB.out HB6.out)) (Nat.le_succ _)⟩
       | succ left=>
        have hE : (if (leadP a.nd.target).2.2 ≠ 0 then wrE 160 else walkIn fs fo (walkK fs fo left) ((leadP a.nd.target).1 ++ rest) (if (leadP a.nd.target).2.1 = true then 1 else dir)) = R:=hE
        have q1 : wrap64 (((left + 1 : Nat) : Int) - 1) = left:=by unfold wrap64; omega
        have q2 : wrap64 (left : Int) = left:=by unfold wrap64; omega
        have q3 : ¬ ((left : Int) < 0):=by omega
        have hLd:=Lib.hid (pt_lead a.nd.target w6 HL6.out (by omega))
        have HLF:=Lib.hid (lead_few a.nd.target (by omega))
        generalize leadP a.nd.target = ld at hE hLd HLF
        obtain ⟨lns,lro,lco⟩:=ld
        simp only at hE
        have HE3:=Lib.hid hE
        clear hE
        rcases hsp2 with ⟨h0,h0'⟩ | ⟨h0,h0',rfl⟩
        ·go_wp2_with (first
          |(go_at_call 104
            refine hLd.out.mono ?_
            rintro e w7 ⟨⟨AL,nL,rfl,hnL⟩,hb7⟩
            have HNL:=Lib.hid hnL.1
            have HB7:=Lib.hid hb7
            have HB8:=Lib.hid (bl_t HB6.out hb7)
            have HN7:=Lib.hid (HN6.out.below hb7)
            have HS7:=Lib.hid (blk_below HS6.out hb7)
            have t0 : w7.cell? ⟨w.heap.size + 1,0,none⟩ = some (.int .i64 0):=HS7.out.cell 0
            have t1 : w7.cell? ⟨w.heap.size + 1,1,none⟩ = some (.string ⟨#[]⟩):=HS7.out.cell 1
            have t2 : w7.cell? ⟨w.heap.size + 1,2,none⟩ = some (.int .i64 0):=HS7.out.cell 2
            have p0:=HS7.out.frozen 0
            have p1:=HS7.out.frozen 1
            have p2:=HS7.out.frozen 2
            clear hnL hb7)
          |(go_at_call 105
            have bA:=Blk.new w7 31 #[.slice AL nL nL,.slice A1 rest.length (q - 1)]
            have hbA : Below w7.heap.size w7 (w7.alloc (.cells #[.slice AL nL nL,.slice A1 rest.length (q - 1)] 31)):=(Below.refl _ _).alloc (Nat.le_refl _) _
            have hlL:=HNL.out.1
            have hlF:=HLF.out.1
            simp only [strV,List.length_map] at hlL
            refine (sl_concat (x1:=strV lns) (x2:=strV rest) (bA.cell 0) (bA.cell 1) (HNL.out.below hbA) (by first | exact HN7.out.below hbA | (have h:=HN7.out.below hbA; rw [h0] at h; exact h)) (strV_one _) (strV_one _) (by omega)).mono ?_
            rintro e w8 ⟨⟨A8,q8,rfl,hR8,hown8⟩,hb8⟩
            have hq8:=own_cap hown8
            have HN8:=Lib.hid (by rw [← strV_append] at hR8; exact hR8 : RdV w8 A8 (nL + rest.length) (strV (lns ++ rest)))
            have HB9:=Lib.hid (bl_t HB8.out (bl_t hbA hb8))
            clear hown8 hR8 hb8 bA hbA))
         ·have hlc : lco ≠ 0:=by simp_all
          have hE : wrE 160 = R:=by
           have h:=HE3.out
           rw [if_pos hlc] at h
           exact h
          unfold wrE at hE
          rw [Exit.noGoto_ret]
          refine bodyPost_ret (v:=.tuple #[spotC 0 ⟨#[]⟩ 0,.int .i64 160]) ?_ rfl ?_
          ·exact walk_results (r:=⟨0,⟨#[]⟩,0,160⟩) rfl rfl (spot_set HS7.out)
          ·subst hE
           exact ⟨rfl,spot_below (bl_t HB0.out (bl_t HB.out HB8.out)) (Nat.le_succ _)⟩
         ·have hlc : ¬ lco ≠ 0:=by simp_all
          have hlr : lro = true:=by simp_all
          have hE : walkIn fs fo (walkK fs fo left) (lns ++ rest) 1 = R:=by
           have h:=HE3.out
           rw [if_neg hlc,hlr] at h
           exact h
          refine ⟨⟨A8,nL + rest.length,q8,left,lns ++ rest,1,rfl,rfl,rfl,hq8,by omega,by omega,by decide,bl_t HBw.out HB9.out,HN8,Lib.hid (fun x hx=>(List.mem_append.1 hx).elim (HLF.out.2 x) (HZ2.out x)),Lib.hid HR.out.rooted.2,Lib.hid hE⟩,?_⟩
          show 1000 * left + (nL + rest.length) < 1000 * (left + 1) + _
          omega
         ·have hlc : ¬ lco ≠ 0:=by simp_all
          have hlr : lro = false:=by simp_all
          have hE : walkIn fs fo (walkK fs fo left) (lns ++ rest) dir = R:=by
           have h:=HE3.out
           rw [if_neg hlc,hlr] at h
           exact h
          refine ⟨⟨A8,nL + rest.length,q8,left,lns ++ rest,dir,rfl,rfl,rfl,hq8,by omega,by omega,hwf,bl_t HBw.out HB9.out,HN8,Lib.hid (fun x hx=>(List.mem_append.1 hx).elim (HLF.out.2 x) (HZ2.out x)),HD,Lib.hid hE⟩,?_⟩
          show 1000 * left + (nL + rest.length) < 1000 * (left + 1) + _
          omega
        ·go_wp2_with (first
          |(go_at_call 104
            refine hLd.out.mono ?_
            rintro e w7 ⟨⟨AL,nL,rfl,hnL⟩,hb7⟩
            have HNL:=Lib.hid hnL.1
            have HB7:=Lib.hid hb7
            have HB8:=Lib.hid (bl_t HB6.out hb7)
            have HN7:=Lib.hid (HN6.out.below hb7)
            have HS7:=Lib.hid (blk_below HS6.out hb7)
            have t0 : w7.cell? ⟨w.heap.size + 1,0,none⟩ = some (.int .i64 0):=HS7.out.cell 0
            have t1 : w7.cell? ⟨w.heap.size + 1,1,none⟩ = some (.string ⟨#[]⟩):=HS7.out.cell 1
            have t2 : w7.cell? ⟨w.heap.size + 1,2,none⟩ = some (.int .i64 0):=HS7.out.cell 2
            have p0:=HS7.out.frozen 0
            have p1:=HS7.out.frozen 1
            have p2:=HS7.out.frozen 2
            clear hnL hb7)
          |(go_at_call 105
            have bA:=Blk.new w7 31 #[.slice AL nL nL,.slice A1 0 (q - 1)]
            have hbA : Below w7.heap.size w7 (w7.alloc (.cells #[.slice AL nL nL,.slice A1 0 (q - 1)] 31)):=(Below.refl _ _).alloc (Nat.le_refl _) _
            have hlL:=HNL.out.1
            have hlF:=HLF.out.1
            simp only [strV,List.length_map] at hlL
            refine (sl_concat (x1:=strV lns) (x2:=strV rest) (bA.cell 0) (bA.cell 1) (HNL.out.below hbA) (by first | exact HN7.out.below hbA | (have h:=HN7.out.below hbA; rw [h0] at h; exact h)) (strV_one _) (strV_one _) (by omega)).mono ?_
            rintro e w8 ⟨⟨A8,q8,rfl,hR8,hown8⟩,hb8⟩
            have hq8:=own_cap hown8
            have HN8:=Lib.hid (by rw [← strV_append] at hR8; exact hR8 : RdV w8 A8 (nL + 0) (strV (lns ++ rest)))
            have HB9:=Lib.hid (bl_t HB8.out (bl_t hbA hb8))
            clear hown8 hR8 hb8 bA hbA))
         ·have hlc : lco ≠ 0:=by simp_all
          have hE : wrE 160 = R:=by
           have h:=HE3.out
           rw [if_pos hlc] at h
           exact h
          unfold wrE at hE
          rw [Exit.noGoto_ret]
          refine bodyPost_ret (v:=.tuple #[spotC 0 ⟨#[]⟩ 0,.int .i64 160]) ?_ rfl ?_
          ·exact walk_results (r:=⟨0,⟨#[]⟩,0,160⟩) rfl rfl (spot_set HS7.out)
          ·subst hE
           exact ⟨rfl,spot_below (bl_t HB0.out (bl_t HB.out HB8.out)) (Nat.le_succ _)⟩
         ·have hlc : ¬ lco ≠ 0:=by simp_all
          have hlr : lro = true:=by simp_all
          have hE : walkIn fs true (walkK fs true left) (lns ++ rest) 1 = R:=by
           have h:=HE3.out
           rw [if_neg hlc,hlr] at h
           exact h
          refine ⟨⟨A8,nL + 0,q8,left,lns ++ rest,1,rfl,rfl,rfl,hq8,by omega,by omega,by decide,bl_t HBw.out HB9.out,HN8,Lib.hid (fun x hx=>(List.mem_append.1 hx).elim (HLF.out.2 x) (HZ2.out x)),Lib.hid HR.out.rooted.2,Lib.hid hE⟩,?_⟩
          show 1000 * left + (nL + 0) < 1000 * (left + 1) + _
          omega
         ·have hlc : ¬ lco ≠ 0:=by simp_all
          have hlr : lro = false:=by simp_all
          have hE : walkIn fs true (walkK fs true left) (lns ++ rest) dir = R:=by
           have h:=HE3.out
           rw [if_neg hlc,hlr] at h
           exact h
          refine ⟨⟨A8,nL + 0,q8,left,lns ++ rest,dir,rfl,rfl,rfl,hq8,by omega,by omega,hwf,bl_t HBw.out HB9.out,HN8,Lib.hid (fun x hx=>(List.mem_append.1 hx).elim (HLF.out.2 x) (HZ2.out x)),HD,Lib.hid hE⟩,?_⟩
          show 1000 * left + (nL + 0) < 1000 * (left + 1) + _
          omega
      ·have hf0 : rest.length = 0 ∧ fo = false:=⟨Classical.byContradiction fun h=>hfol (.inl h),Bool.eq_false_iff.2 fun h=>hfol (.inr h)⟩
       obtain ⟨h0,rfl⟩:=hf0
       have h0' : ((rest.length : Int) + 1 == 1) = true:=by simp; omega
       have hE:=HE.out
       rw [walkIn_is (by simpa using hup) hgi ha (fun h=>hfol h.2) h0] at hE
       go_wp2
       rw [Exit.noGoto_ret]
       refine bodyPost_ret (v:=.tuple #[spotC dir nm ino,.int .i64 0]) ?_ rfl ?_
       ·exact walk_results (r:=⟨dir,nm,ino,0⟩) rfl rfl (spot_set HS6.out)
       ·subst hE
        exact ⟨rfl,spot_below (bl_t HB0.out (bl_t HB.out HB6.out)) (Nat.le_succ _)⟩
     ·have h3' : (a.nd.kind == 3) = false:=by simpa using h3
      by_cases h0 : rest.length = 0
      ·have h0' : ((rest.length : Int) + 1 == 1) = true:=by simp; omega
       have hE:=HE.out
       rw [walkIn_is (by simpa using hup) hgi ha (fun h=>h3 h.1) h0] at hE
       go_wp2
       rw [Exit.noGoto_ret]
       refine bodyPost_ret (v:=.tuple #[spotC dir nm ino,.int .i64 0]) ?_ rfl ?_
       ·exact walk_results (r:=⟨dir,nm,ino,0⟩) rfl rfl (spot_set HS6.out)
       ·subst hE
        exact ⟨rfl,spot_below (bl_t HB0.out (bl_t HB.out HB6.out)) (Nat.le_succ _)⟩
      ·have h0' : ((rest.length : Int) + 1 == 1) = false:=by simp; omega
       by_cases h2 : a.nd.kind = 2
       ·have h2' : (a.nd.kind != 2) = false:=by simpa using h2
        have hE:=HE.out
        rw [walkIn_in (by simpa using hup) hgi ha h0 h2] at hE
        have HE2:=Lib.hid hE
        clear hE HE HD
        go_wp2
        go_roundw
        case rel=>exact ⟨A1,rest.length,q - 1,left,rest,_,rfl,rfl,rfl,by omega,hleft,by omega,hwi,bl_t HBw.out HB6.out,HN6,HZ2,Lib.hid ⟨a,ha,h2⟩,HE2⟩
        case measure=>show _ + rest.length < _ + (rest.length + 1); omega
       ·have h2' : (a.nd.kind != 2) = true:=by simpa using h2
        have hE:=HE.out
        rw [walkIn_no (by simpa using hup) hgi ha h3 h0 h2] at hE
        unfold wrE at hE
        go_wp2
        rw [Exit.noGoto_ret]
        refine bodyPost_ret (v:=.tuple #[spotC 0 ⟨#[]⟩ 0,.int .i64 162]) ?_ rfl ?_
        ·exact walk_results (r:=⟨0,⟨#[]⟩,0,162⟩) rfl rfl (spot_set HS6.out)
        ·subst hE
         exact ⟨rfl,spot_below (bl_t HB0.out (bl_t HB.out HB6.out)) (Nat.le_succ _)⟩
end Go.Proofs.YtpboohfofodeeaaGreatDoor
/- files: into (conditions: none). -/
namespace Go.Proofs.YtpboohfofodeeaaGreatDoor
open Go.RowKit Go.Maps
noncomputable def upF (G : SlotK → Option Int) : Nat → Int → Int
 | 0,d=>d
 | n + 1,d=>upF G n (aboveF G d)
/-- Is a Dir another one, or below it? -/
def intoP (fs : FS) (dir top : Int) : Prop:=∃ n,upF fs.G n dir = top
theorem above_root {fs : FS} (hR : RightFS fs) : aboveF fs.G 1 = 1:=by
 unfold aboveF
 rw [dif_neg]
 rintro ⟨s,hs⟩
 exact (hR.named s 1 hs).2.1 rfl
theorem up_root {fs : FS} (hR : RightFS fs) : ∀ n,upF fs.G n 1 = 1
 | 0=>rfl
 | n + 1=>by rw [upF,above_root hR]; exact up_root hR n
theorem above_at {fs : FS} (hR : RightFS fs) (hG : GoodN fs) {d : Int} (hd : isDir fs d) {s : SlotK} (hs : fs.G s = some d) : aboveF fs.G d = s.1.1:=
 (above_det hR hG hd (.inl ⟨s,hs,rfl⟩)).symm
theorem path_up {fs : FS} (hR : RightFS fs) (hG : GoodN fs) {H : Int → List SlotK} (hH : SlotsP fs.G H) : ∀ (k : Nat) (s : SlotK) (p q : ByteArray),isDir fs s.1.1 → pathK H k s p = some q → ∃ n,upF fs.G n s.1.1 = 1
 | 0,s,p,q,_,h=>by
  unfold pathK at h
  by_cases h1 : s.1.1 = 1
  ·exact ⟨0,h1⟩
  ·rw [if_neg h1] at h; cases h
 | k + 1,s,p,q,hd,h=>by
  by_cases h1 : s.1.1 = 1
  ·exact ⟨0,h1⟩
  ·cases hl : H s.1.1 with
   | nil=>rw [pathK_none h1 hl] at h; cases h
   | cons a t=>
    rw [pathK_up h1 hl] at h
    have ha : fs.G a = some s.1.1:=((hH s.1.1).2.1 a).1 (by rw [hl]; simp)
    obtain ⟨n,hn⟩:=path_up hR hG hH k a _ _ (hR.named a _ ha).1 h
    exact ⟨n + 1,by rw [upF,above_at hR hG hd ha]; exact hn⟩
theorem dir_up {fs : FS} (hR : RightFS fs) (hG : GoodN fs) {d : Int} (hd : isDir fs d) : ∃ n,upF fs.G n d = 1:=by
 by_cases h1 : d = 1
 ·exact ⟨0,h1⟩
 obtain ⟨H,hH,hL⟩:=hR.linked
 obtain ⟨a,ha,hk⟩:=hd
 have hl:=(hL d a ha).1 h1
 have hr:=hG d a ha
 have hl1 : a.nd.links = 1:=by unfold ND.right at hr; omega
 obtain ⟨s,hs⟩ : ∃ s,s ∈ H d:=by
  cases he : H d with
  | nil=>rw [he] at hl; simp at hl; omega
  | cons s t=>exact ⟨s,by simp⟩
 have hgs:=((hH d).2.1 s).1 hs
 obtain ⟨p,hp,_⟩:=(hL d a ha).2 s hs
 obtain ⟨n,hn⟩:=path_up hR hG hH 31 s _ _ (hR.named s d hgs).1 hp
 exact ⟨n + 1,by rw [upF,above_at hR hG ⟨a,ha,hk⟩ hgs]; exact hn⟩
theorem least_ {P : Nat → Prop} (h : ∃ n,P n) : ∃ n,P n ∧ ∀ m,P m → n ≤ m:=by
 obtain ⟨n,hn⟩:=h
 induction n using Nat.strongRecOn with
 | _ n ih=>
  by_cases hm : ∃ m,P m ∧ m < n
  ·obtain ⟨m,hP,hlt⟩:=hm
   exact ih m hlt hP
  ·exact ⟨n,hn,fun m hP=>Nat.le_of_not_lt fun hlt=>hm ⟨m,hP,hlt⟩⟩
open Classical in
noncomputable def depthF (G : SlotK → Option Int) (d : Int) : Nat:=if h : ∃ n,upF G n d = 1 then Classical.choose (least_ h) else 0
theorem depth_lt {fs : FS} (hR : RightFS fs) (hG : GoodN fs) {d : Int} (hd : isDir fs d) (h1 : d ≠ 1) : depthF fs.G (aboveF fs.G d) < depthF fs.G d:=by
 classical
 have h:=dir_up hR hG hd
 have h':=dir_up hR hG (above_dir hR hd)
 unfold depthF
 rw [dif_pos h,dif_pos h']
 obtain ⟨hs,_⟩:=Classical.choose_spec (least_ h)
 obtain ⟨_,hm⟩:=Classical.choose_spec (least_ h')
 generalize Classical.choose (least_ h) = k at hs ⊢
 cases k with
 | zero=>exact absurd hs h1
 | succ k=>exact Nat.lt_succ_of_le (hm k hs)
theorem into_up {fs : FS} {d top : Int} (h : d ≠ top) : intoP fs (aboveF fs.G d) top ↔ intoP fs d top:=
 ⟨fun ⟨n,hn⟩=>⟨n + 1,hn⟩,fun ⟨n,hn⟩=>by
  cases n with
  | zero=>exact absurd hn h
  | succ n=>exact ⟨n,hn⟩⟩
theorem into_root {fs : FS} (hR : RightFS fs) {top : Int} (h : (1 : Int) ≠ top) : ¬ intoP fs 1 top:=fun ⟨n,hn⟩=>h ((up_root hR n).symm.trans hn)
set_option maxRecDepth 100000 in
set_option maxHeartbeats 2000000 in
theorem fw_into [Fence] {c : Nat} {w : World} {f b m : Nat} {own : Int → Own} {fs : FS} (h : FlsB c w f b m own fs) (hR : RightFS fs) (hG : GoodN fs) (dir top : Int) (hd : isDir fs dir) :
 Calls Tryz.prog 108 #[wkV f,.int .i64 dir,.int .i64 top] w fun e w'=>TellsP (intoP fs dir top) e ∧ Below w.heap.size w w':=by
 have hb0 : Below w.heap.size w (w.alloc (.cells #[Pa f] 78)):=(Below.refl _ _).alloc (Nat.le_refl _) _
 have HF:=Lib.hid (h.below hb0)
 have HW:=Lib.hid (Blk.new w 78 #[Pa f])
 have HB0:=Lib.hid hb0
 have HR:=Lib.hid hR
 have HG:=Lib.hid hG
 have HD:=Lib.hid hd
 unfold wkV
 clear h hb0 hR hG hd
 go_enter Tryz.func108,Tryz.ntmps108
 go_upto_region 1 with fail
 generalize w.alloc (.cells #[Pa f] 78) = w1 at *
 go_loopw [1] (fun v wr=>∃ d : Int,v = .int .i64 d ∧ Below w1.heap.size w1 wr ∧ Hid (isDir fs d) ∧ Hid (intoP fs d top ↔ intoP fs dir top)) (fun v _=>depthF fs.G (intOf v))
 case atStart=>exact ⟨dir,rfl,Below.refl _ _,HD,Lib.hid Iff.rfl⟩
 case round=>
  obtain ⟨d,rfl,hb,HD,HI⟩:=hrel
  have HB:=Lib.hid hb
  have d0 : wr.cell? ⟨w.heap.size,0,none⟩ = some (Pa f):=(blk_below HW.out hb).cell 0
  have hA:=Lib.hid (fw_above (HF.out.below hb) d)
  unfold wkV at hA
  clear hb
  by_cases ht : d = top
  ·subst ht
   have hy : Hid (TellsP (intoP fs dir d) (.returned (.bool true))):=Lib.hid ⟨true,rfl,fun _=>HI.out.1 ⟨0,rfl⟩,fun _=>rfl⟩
   go_wp2
   go_ret
   exact ⟨hy.out,bl_t HB0.out HB.out⟩
  ·have ht' : (d != top) = true:=by simpa using ht
   by_cases h1 : d = 1
   ·subst h1
    have hy : Hid (TellsP (intoP fs dir top) (.returned (.bool false))):=Lib.hid ⟨false,rfl,(fun h=>by cases h),fun h=>absurd (HI.out.2 h) (into_root HR.out ht)⟩
    go_wp2
    go_ret
    exact ⟨hy.out,bl_t HB0.out HB.out⟩
   ·have h1' : (d == 1) = false:=by simpa using h1
    go_wp2_with (go_at_call 103; refine hA.out.mono ?_; rintro e w5 ⟨⟨r,rfl,hr⟩,hb5⟩; have HA5:=Lib.hid hr; have HB5:=Lib.hid hb5; clear hr hb5)
    go_roundw
    case rel=>
     have hr1:=above_det HR.out HG.out HD.out HA5.out
     subst hr1
     exact ⟨_,rfl,bl_t HB.out HB5.out,Lib.hid (above_dir HR.out HD.out),Lib.hid ((into_up ht).trans HI.out)⟩
    case measure=>
     have hr1:=above_det HR.out HG.out HD.out HA5.out
     subst hr1
     exact depth_lt HR.out HG.out HD.out h1
end Go.Proofs.YtpboohfofodeeaaGreatDoor
