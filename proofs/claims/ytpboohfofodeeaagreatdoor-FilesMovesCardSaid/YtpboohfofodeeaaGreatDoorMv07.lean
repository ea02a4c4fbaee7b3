/- audit.Path of an inode that is there (conditions: none). -/
import Derived.Test.YtpboohfofodeeaaGreatDoorM31
import Derived.Test.YtpboohfofodeeaaGreatDoorM21
import Derived.Test.YtpboohfofodeeaaGreatDoorM35
import Derived.Test.YtpboohfofodeeaaGreatDoorMv01
import Derived.Test.YtpboohfofodeeaaGreatDoorMv03
import Derived.Test.YtpboohfofodeeaaGreatDoorMv05
import Derived.Test.YtpboohfofodeeaaGreatDoorMv06
import Derived.Test.YtpboohfofodeeaaGreatDoorMv04
namespace Go.Proofs.YtpboohfofodeeaaGreatDoor
open Go.RowKit Go.Maps
set_option maxRecDepth 100000 in
set_option maxHeartbeats 4000000 in
theorem au_path {w:World} {A:Option Addr} {n q:Nat} (l:List (ByteArray × ByteArray)) {fs:FS} (hR:RdI w A n l) (hn:n≤137438953000) (hz:∀ x∈l,x.1.size≤140737488351232∧x.2.size≤140737488351232) (ht:takeL fs0 none l=some fs) (hrt:RightFS fs) {ino:Int} {a:NodeA} (ha:fs.N ino=some a) (hlk:1≤a.nd.links) (hw:(Lit.int .i64 ino).wf=true) :
 Calls Tryz.prog 23 #[.slice A n q,.int .i64 ino] w fun e w'=>(∃ p,e=.returned (.tuple #[.string p,.bool true]))∧Below w.heap.size w w':=by
 have hO:=st_open (w:=w) (q:=q) l hR (by omega) hz
 obtain ⟨inst,hfn⟩:∃ F:Fence,F.lo=w.heap.size:=⟨⟨w.heap.size⟩,rfl⟩
 have HO:Hid (Calls Tryz.prog 28 #[.slice A n q] w fun e w'=>∃ f b m own,e=.returned (.tuple #[Pa f,.bool true])∧FlsB l.length w' f b m own fs∧Below w.heap.size w w'):=Lib.hid (hO.mono fun e w' h=>by
  obtain ⟨hb,⟨f,b,m,own,fs',h0,h1,h2,h3⟩ | ⟨_,h1⟩⟩:=h
  ·rw [ht] at h1
   cases h1
   exact ⟨f,b,m,own,h0,h3.toB (by rw [hfn]; exact Nat.le_refl _),hb⟩
  ·exact absurd ⟨fs,ht,hrt⟩ h1)
 have HOK:Hid (FsOk fs):=Lib.hid ((take_ok ht takeOk0).fsOk hrt)
 have hll:l.length≤137438953000:=by rw [hR.1]; exact hn
 have HLK:=Lib.hid hrt.linked
 have HA:=Lib.hid ha
 have HW:=Lib.hid hw
 clear hO ht hrt hfn hR hz ha hw
 go_enter Tryz.func23,Tryz.ntmps23
 go_upto_region 2 with (
  go_at_call 28
  refine HO.out.mono ?_
  rintro e w2 ⟨f,b,m,own,rfl,hF2,hb2⟩
  have HF2:=Lib.hid hF2
  have HB2:=Lib.hid hb2
  clear hF2 hb2)
 have c1:w2.cell? ⟨f,1,none⟩=some (.map (some b)):=HF2.out.blk.cell 1
 have hL:(Instr.lookup 88 (.map (some b)) (.int .i64 ino) false).run Tryz.prog w2=.ok (.pointer (some ⟨(own ino).g,0,none⟩)) w2:=by
  have h:=HF2.out.lookN ino HW.out 0
  rw [HA.out] at h
  exact h
 generalize (own ino).g=gi at hL
 by_cases h1:ino=1
 ·have h1':(ino == 1)=true:=by simpa using h1
  clear h1
  go_wp2
  go_ret2
  exact ⟨⟨_,rfl⟩,HB2.out⟩
 ·have h1':(ino == 1)=false:=by simpa using h1
  have H1:=Lib.hid h1
  clear h1
  have hS:Hid (Calls Tryz.prog 37 #[.pointer (some ⟨f,0,none⟩)] w2 (SlotsEnds w2 fs.G)):=Lib.hid (by
   obtain ⟨n2,x2,y2⟩:=HF2.out.names
   exact st_slots sort_slots (HF2.out.blk.cell 2) y2 HF2.out.wf (by omega))
  go_upto_region 7 with (
   go_at_call 37
   refine hS.out.mono ?_
   rintro e w4 ⟨mo,no,F2,H,rfl,q1,q2,q3,q4,q5⟩
   have HMO:=Lib.hid q2
   have HRO:=Lib.hid q3
   have HSP:=Lib.hid q4
   have HB4:=Lib.hid (bl_t HB2.out q5)
   clear q1 q2 q3 q4 q5)
  clear hL c1
  have hrow:=HRO.out.get ino
  have hsz:(zeroValue 97).run Tryz.prog w4=.ok (.slice none 0 0) w4:=by simp [go_sem]
  have hL:=MapI.look HMO.out Tryz.underlying3 Tryz.underlying92 hsz false ino HW.out
  obtain ⟨A5,q5,hv⟩:=own_slice hrow
  rw [hv] at hrow
  simp only [hv,Bool.false_eq_true,if_false] at hL
  clear hsz
  have hnl:nodeLinked H ino a:=by
   obtain ⟨H',a1,a2⟩:=HLK.out
   rw [slots_unique HSP.out a1]
   exact a2 ino a HA.out
  cases hH:H ino with
  | nil=>
   have:=hnl.1 H1.out
   rw [hH] at this
   simp at this
   omega
  | cons s t=>
   obtain ⟨p,hp,_⟩:=hnl.2 s (by rw [hH]; exact List.mem_cons_self)
   rw [hH] at hL hrow
   obtain ⟨g,rfl,e0,e1⟩:=row_first hrow (by simp)
   have hpos:0 < (s :: t).length:=by simp
   have hP:=Lib.hid (st_path s HMO.out HRO.out (fun ino s hs=>HOK.out.names s ino ((HSP.out ino).2.1 s |>.1 hs)) (HOK.out.names s ino ((HSP.out ino).2.1 s |>.1 (by rw [hH]; exact List.mem_cons_self))))
   unfold slotV at hP
   have HP:=Lib.hid hp
   generalize (s :: t).length=len at *
   clear hrow hv hH hp hnl
   go_wp2_with (
    go_at_call 38
    refine hP.out.mono ?_
    rintro e w6 ⟨⟨p',h1,rfl⟩ | ⟨h1,_⟩,hb6⟩
    case inr=>rw [HP.out] at h1; cases h1
    have HB6:=Lib.hid (bl_t HB4.out hb6)
    clear hb6)
   go_ret2
   exact ⟨⟨_,rfl⟩,HB6.out⟩
end Go.Proofs.YtpboohfofodeeaaGreatDoor
/- law16: FilesMoves (conditions: none; printed by gen_mov.py). -/
namespace Go.Proofs.YtpboohfofodeeaaGreatDoor
open Go.RowKit Go.Maps
theorem chCs_at:∀ (l:List ChgA) (k j:Nat) (x:ChgA),j < 5→l[k]? = some x→(chCs l)[k * 5+j]? = (chC x)[j]?
 | [],k,j,x,_,h=>by simp at h
 | y :: t,0,j,x,hj,h=>by
  cases h
  show (chC y++chCs t)[0 * 5+j]? = _
  rw [List.getElem?_append_left (by simp [chC]; omega)]
  congr 1
  omega
 | y :: t,k+1,j,x,hj,h=>by
  have ih:=chCs_at t k j x hj (by simpa using h)
  show (chC y++chCs t)[(k+1) * 5+j]? = _
  have hz:(chC y).length=5:=rfl
  rw [List.getElem?_append_right (by omega),hz,← ih]
  congr 1
  omega
theorem ch_cell {w:World} {base g n c:Nat} {l:List ChgA} {k j:Nat} {x:ChgA} {v:Value} (h:w.ownsRow base 54 5 (.slice (some ⟨g,0,none⟩) n c) n (chCs l)) (hj:j < 5) (hx:l[k]? = some x) (hv:(chC x)[j]? = some v):w.cell? ⟨g,k * 5+j,none⟩=some v:=by
 have:=h.cells (g:=g) rfl (k * 5+j) v (by rw [chCs_at l k j x hj hx,hv])
 simpa [Addr.add_lit] using this
theorem rd_new (w:World) (a b:ByteArray):RdI (w.alloc (.cells #[.string a,.string b] 59)) (some ⟨w.heap.size,0,none⟩) 1 [(a,b)]:=by
 refine ⟨rfl,fun _=>⟨w.heap.size,0,rfl,fun j x hx=>?_⟩⟩
 have hB:=Blk.new w 59 #[.string a,.string b]
 cases j with
 | zero=>
  cases hx
  exact ⟨hB.cell 0,hB.cell 1⟩
 | succ j=>simp at hx
theorem encS_few {n:ND} (h:n.right):(encS n).size≤1000:=by
 have h1:=shS_size n.mode
 have h2:=shS_size n.links
 have h3:=shS_size n.size
 have h4:=shS_size n.target.size
 have h5:=fix8_size (IntKind.u64.wrap n.time)
 have hz:(strOfNums [n.kind]).size=1:=by rw [strOfNums_size]; rfl
 have ht:n.target.size≤100:=by
  rcases h.2.2.2.2 with ⟨_,_,_,e⟩ | ⟨_,_,_,e⟩ | ⟨_,_,e⟩
  ·omega
  ·omega
  ·exact (target_no e).2.1
 rw [enc_parts,ByteArray.size_append]
 unfold encH
 rw [ByteArray.size_append,ByteArray.size_append,ByteArray.size_append]
 split
 ·omega
 ·split
  ·rw [ByteArray.size_append]; omega
  ·show _+0≤1000; omega
theorem opS (k:Int) {a b:ByteArray} (ha:a.size≤1200) (hb:b.size≤1200):OpSmall ⟨k,a,b,bE,0,0,bE⟩:=⟨by simp only; omega,by simp only; omega,(by decide:bE.size≤4294967280),by simp only; decide⟩
theorem take_more {l:List ChgA} {k:Nat} {x:ChgA} (h:l[k]? = some x):((l.take (k+1)).filter isD).length=((l.take k).filter isD).length+(if isD x then 1 else 0):=by
 rw [List.take_add_one,h,List.filter_append,List.length_append]
 cases hx:isD x <;> simp [hx]
set_option maxRecDepth 100000 in
set_option maxHeartbeats 16000000 in
theorem law_moves {w:World} {A:Option Addr} {n c:Nat} {ops:List OpA} {from_ to_:ByteArray} (hl:LibV w) (h:RdO w A n ops):Calls Tryz.prog 8 #[.slice A n c,.string from_,.string to_] w fun e w'=>e=.returned (.bool true)∧Below w.heap.size w w':=by
 have HLV:=Lib.hid hl
 have HRO:=Lib.hid h
 have HLEN:=Lib.hid h.1
 clear hl h
 have HLG:Hid (∀ W,RdO W A n ops→Calls Tryz.prog 11 #[.slice A n c,.int .i64 40] W (LongEnds W ops 40)):=Lib.hid fun W h=>lw_long (c:=c) h 40
 by_cases h1:1200 < from_.size
 all_goals by_cases h2:1200 < to_.size
 rotate_right 1
 all_goals (
  go_enter Tryz.func8,Tryz.ntmps8
  go_upto_region 5 with (first
   |(go_at_call 10
     refine (lw_awake HLV.out).mono ?_
     rintro e w1 ⟨rfl,hb1⟩
     have HB1:=Lib.hid hb1
     clear hb1)
   |(go_at_call 11
     refine (HLG.out _ (HRO.out.below HB1.out)).mono ?_
     rintro e w2 ⟨hb2,rfl | ⟨rfl,hfew,hgr⟩⟩
     all_goals have HB2:=Lib.hid (bl_t HB1.out hb2)
     all_goals clear hb2)))
 rotate_left 1
 any_goals (
  go_wp2
  go_ret
  exact ⟨rfl,HB2.out⟩)
 have HGR:=Lib.hid hgr
 have hn60:n≤60:=by have:=HLEN.out; omega
 have HRW:=Lib.hid (HRO.out.below HB2.out)
 have HLW:=Lib.hid (HLV.out.below HB2.out)
 have hz1:from_.size≤1200:=by omega
 have hz2:to_.size≤1200:=by omega
 clear hgr hfew HLV HRO HB1 h1 h2
 go_upto_region 6 with (
  go_at_call 13
  refine (lw_made HLW.out HRW.out hn60 HGR.out).mono ?_
  rintro e u1 hM
  obtain ⟨B1,t1,L0,fs,rfl,hM⟩:=hM
  have HM:=Lib.hid hM.mid
  have HLS:=Lib.hid hM.ls
  have HBU1:=Lib.hid (bl_t HB2.out hM.ls.bl)
  have HLV1:=Lib.hid (HLW.out.below hM.ls.bl)
  clear hM)
 have HBW0:Hid (Below u1.heap.size u1 u1):=Lib.hid (Below.refl _ _)
 have HRD1:=Lib.hid (HLS.out.rd.below (Nat.le_refl _) HBW0.out)
 go_upto_region 7 with (first
  |(go_at_call 15
    refine (lw_own2 HRD1.out HLS.out.few_).mono ?_
    rintro e u2 ⟨B2,t2,rfl,hr,hb⟩
    have HU2:=Lib.hid hr
    have HBU2:=Lib.hid hb
    clear hr hb)
  |(go_at_call 14
    refine (lw_do (q:=t2) HU2.out HLS.out.it HLS.out.itm HLS.out.few2 (HLV1.out.below (bl_t HBW0.out HBU2.out)) (o:=oStat from_) (opS 20 hz1 (by decide)) (ints0 _ _ _)).mono ?_
    rintro e v1 hD
    obtain ⟨A1,q1,C1,x1,E1,y1,p1,l1,rfl,hd,hr,hn,hb⟩:=hD
    have hbx:Below v1.heap.size v1 (v1.alloc (.cells #[.int .i64 p1.code,.string p1.data,.slice C1 p1.names.length x1,.slice E1 p1.ranges.length y1,.int .i64 p1.ino,.int .i64 p1.nd.kind,.int .i64 p1.nd.mode,.int .i64 p1.nd.time,.int .i64 p1.nd.links,.int .i64 p1.nd.size,.string p1.nd.target] 36)):=(Below.refl _ _).alloc (Nat.le_refl _) _
    have HD1:=Lib.hid hd
    have HBS1:=Lib.hid (bl_t (bl_t HBU2.out hb) hbx)
    have HBW1:=Lib.hid (bl_t HBW0.out HBS1.out)
    have HA1:=Lib.hid (Blk.new v1 36 #[.int .i64 p1.code,.string p1.data,.slice C1 p1.names.length x1,.slice E1 p1.ranges.length y1,.int .i64 p1.ino,.int .i64 p1.nd.kind,.int .i64 p1.nd.mode,.int .i64 p1.nd.time,.int .i64 p1.nd.links,.int .i64 p1.nd.size,.string p1.nd.target])
    obtain ⟨r1,hrk⟩:∃ r1,r1=v1.heap.size:=⟨_,rfl⟩
    rw [← hrk] at HA1
    have HRK1:=Lib.hid hrk
    clear hd hr hn hb hbx hrk))
 rw [← HRK1.out]
 generalize v1.alloc (.cells #[.int .i64 p1.code,.string p1.data,.slice C1 p1.names.length x1,.slice E1 p1.ranges.length y1,.int .i64 p1.ino,.int .i64 p1.nd.kind,.int .i64 p1.nd.mode,.int .i64 p1.nd.time,.int .i64 p1.nd.links,.int .i64 p1.nd.size,.string p1.nd.target] 36)=W1 at *
 have HRD2:=Lib.hid (HLS.out.rd.below (Nat.le_refl _) HBW1.out)
 go_upto_region 8 with (first
  |(go_at_call 15
    refine (lw_own2 HRD2.out HLS.out.few_).mono ?_
    rintro e u3 ⟨B3,t3,rfl,hr,hb⟩
    have HU3:=Lib.hid hr
    have HBU3:=Lib.hid hb
    clear hr hb)
  |(go_at_call 14
    refine (lw_do (q:=t3) HU3.out HLS.out.it HLS.out.itm HLS.out.few2 (HLV1.out.below (bl_t HBW1.out HBU3.out)) (o:=oStat to_) (opS 20 hz2 (by decide)) (ints0 _ _ _)).mono ?_
    rintro e v2 hD
    obtain ⟨A2,q2,C2,x2,E2,y2,p2,l2,rfl,hd,hr,hn,hb⟩:=hD
    have hbx:Below v2.heap.size v2 (v2.alloc (.cells #[.int .i64 p2.code,.string p2.data,.slice C2 p2.names.length x2,.slice E2 p2.ranges.length y2,.int .i64 p2.ino,.int .i64 p2.nd.kind,.int .i64 p2.nd.mode,.int .i64 p2.nd.time,.int .i64 p2.nd.links,.int .i64 p2.nd.size,.string p2.nd.target] 36)):=(Below.refl _ _).alloc (Nat.le_refl _) _
    have HD2:=Lib.hid hd
    have HBS2:=Lib.hid (bl_t (bl_t HBU3.out hb) hbx)
    have HBW2:=Lib.hid (bl_t HBW1.out HBS2.out)
    have HA2:=Lib.hid (Blk.new v2 36 #[.int .i64 p2.code,.string p2.data,.slice C2 p2.names.length x2,.slice E2 p2.ranges.length y2,.int .i64 p2.ino,.int .i64 p2.nd.kind,.int .i64 p2.nd.mode,.int .i64 p2.nd.time,.int .i64 p2.nd.links,.int .i64 p2.nd.size,.string p2.nd.target])
    obtain ⟨r2,hrk⟩:∃ r2,r2=v2.heap.size:=⟨_,rfl⟩
    rw [← hrk] at HA2
    have HRK2:=Lib.hid hrk
    clear hd hr hn hb hbx hrk))
 rw [← HRK2.out]
 generalize v2.alloc (.cells #[.int .i64 p2.code,.string p2.data,.slice C2 p2.names.length x2,.slice E2 p2.ranges.length y2,.int .i64 p2.ino,.int .i64 p2.nd.kind,.int .i64 p2.nd.mode,.int .i64 p2.nd.time,.int .i64 p2.nd.links,.int .i64 p2.nd.size,.string p2.nd.target] 36)=W2 at *
 replace HA1:=Lib.hid (blk_below HA1.out HBS2.out)
 have HRD3:=Lib.hid (HLS.out.rd.below (Nat.le_refl _) HBW2.out)
 go_upto_region 9 with (first
  |(go_at_call 15
    refine (lw_own2 HRD3.out HLS.out.few_).mono ?_
    rintro e u4 ⟨B4,t4,rfl,hr,hb⟩
    have HU4:=Lib.hid hr
    have HBU4:=Lib.hid hb
    clear hr hb)
  |(go_at_call 14
    refine (lw_do (q:=t4) HU4.out HLS.out.it HLS.out.itm HLS.out.few2 (HLV1.out.below (bl_t HBW2.out HBU4.out)) (o:=oRen from_ to_) (opS 7 hz1 hz2) (ints0 _ _ _)).mono ?_
    rintro e v3 hD
    obtain ⟨A3,q3,C3,x3,E3,y3,p3,l3,rfl,hd,hr,hn,hb⟩:=hD
    have hbx:Below v3.heap.size v3 (v3.alloc (.cells #[.int .i64 p3.code,.string p3.data,.slice C3 p3.names.length x3,.slice E3 p3.ranges.length y3,.int .i64 p3.ino,.int .i64 p3.nd.kind,.int .i64 p3.nd.mode,.int .i64 p3.nd.time,.int .i64 p3.nd.links,.int .i64 p3.nd.size,.string p3.nd.target] 36)):=(Below.refl _ _).alloc (Nat.le_refl _) _
    have HD3:=Lib.hid hd
    have HBS3:=Lib.hid (bl_t (bl_t HBU4.out hb) hbx)
    have HBW3:=Lib.hid (bl_t HBW2.out HBS3.out)
    have HA3:=Lib.hid (Blk.new v3 36 #[.int .i64 p3.code,.string p3.data,.slice C3 p3.names.length x3,.slice E3 p3.ranges.length y3,.int .i64 p3.ino,.int .i64 p3.nd.kind,.int .i64 p3.nd.mode,.int .i64 p3.nd.time,.int .i64 p3.nd.links,.int .i64 p3.nd.size,.string p3.nd.target])
    have HRL:=Lib.hid ((it_row hr rfl).below (Nat.le_refl _) hbx)
    obtain ⟨r3,hrk⟩:∃ r3,r3=v3.heap.size:=⟨_,rfl⟩
    rw [← hrk] at HA3
    have HRK3:=Lib.hid hrk
    clear hd hr hn hb hbx hrk))
 rw [← HRK3.out]
 generalize v3.alloc (.cells #[.int .i64 p3.code,.string p3.data,.slice C3 p3.names.length x3,.slice E3 p3.ranges.length y3,.int .i64 p3.ino,.int .i64 p3.nd.kind,.int .i64 p3.nd.mode,.int .i64 p3.nd.time,.int .i64 p3.nd.links,.int .i64 p3.nd.size,.string p3.nd.target] 36)=W3 at *
 replace HA1:=Lib.hid (blk_below HA1.out HBS3.out)
 replace HA2:=Lib.hid (blk_below HA2.out HBS3.out)
 have x30:W3.cell? ⟨r3,0,none⟩=some (.int .i64 p3.code):=HA3.out.cell 0
 rcases moves_law HM.out HD1.out HD2.out HD3.out with ⟨hc,rfl⟩ | ⟨hc,fs',hok⟩
 ·have hc':(p3.code != 0)=true:=by simpa using hc
  clear hc
  go_wp2
  go_ret
  exact ⟨rfl,bl_t HBU1.out HBW3.out⟩
 have HOK:=Lib.hid hok
 clear hok
 have hc':(p3.code != 0)=false:=by simpa using hc
 clear hc
 go_upto_region 11 with fail
 clear x30 hc'
 have hfi:=items_few HOK.out.mid.itm HOK.out.mid.items
 have HFI:=Lib.hid hfi
 have hl3:l3.length≤137438953000:=by have:=hfi.1; omega
 have hl3b:l3.length≤1000000:=by have:=hfi.1; omega
 have hl0b:L0.length≤1000000:=by have:=(items_few HLS.out.itm HLS.out.it).1; have:=HLS.out.few; omega
 clear hfi
 go_cut [14,15] (fun v14 v15 wx=>(∃ p,v14=.string p)∧v15=.bool true∧Hid (Below W3.heap.size W3 wx))
 case first=>
  have x14:W3.drew.cell? ⟨r1,4,none⟩=some (.int .i64 p1.ino):=HA1.out.cell 4
  have x14':W3.cell? ⟨r1,4,none⟩=some (.int .i64 p1.ino):=HA1.out.cell 4
  have hbd:Below W3.heap.size W3 W3.drew:=(Below.refl _ _).drew
  have HBD:=Lib.hid hbd
  have HRD5:=Lib.hid (HRL.out.below (Nat.le_refl _) hbd)
  obtain ⟨a,ha⟩:=HOK.out.node
  have hca:=HOK.out.mid.canon.node _ a ha
  have hkr:keyRight 105 p1.ino ⟨#[]⟩ 0:=hca.1
  have hwf:(Lit.int .i64 p1.ino).wf=true:=WalkArith.wf_i64 (by unfold keyRight at hkr; omega)
  have HWF:=Lib.hid hwf
  have HLK:=Lib.hid hca.2.1.1
  have HNA:=Lib.hid ha
  have hf3:l3.length≤1099511627776:=by omega
  clear hbd hca hkr hwf ha
  go_region_with (first
   |(go_at_call 15
     refine (lw_own2 HRD5.out hf3).mono ?_
     rintro e u5 ⟨B5,t5,rfl,hr,hb⟩
     have HU5:=Lib.hid hr
     have HB5:=Lib.hid (bl_t HBD.out hb)
     have x5:=keepc' hb x14
     clear hr hb)
   |(go_at_call 23
     refine (au_path (q:=t5) l3 HU5.out hl3 (fun x hx=>by obtain ⟨a,b⟩:=HFI.out.2 x hx; exact ⟨by omega,by omega⟩) (take_items HOK.out.mid.canon HOK.out.mid.items) HOK.out.right HNA.out HLK.out HWF.out).mono ?_
     rintro e u6 ⟨⟨pp,rfl⟩,hb6⟩
     have HB6:=Lib.hid (bl_t HB5.out hb6)
     clear hb6))
  all_goals go_wp2_with fail
  all_goals go_meet
  all_goals exact ⟨⟨_,rfl⟩,rfl,HB6⟩
 case rest=>
  obtain ⟨⟨pp,rfl⟩,rfl,HBC⟩:=hcut
  have HA1c:=Lib.hid (blk_below HA1.out HBC.out)
  have HA2c:=Lib.hid (blk_below HA2.out HBC.out)
  have HR0c:=Lib.hid (HLS.out.rd.below (Nat.le_refl _) (bl_t HBW3.out HBC.out))
  have HRLc:=Lib.hid (HRL.out.below (Nat.le_refl _) HBC.out)
  have HBXc:=Lib.hid (bl_t HBU1.out (bl_t HBW3.out HBC.out))
  clear HA1 HA2 HA3 HBC
  go_upto_region 13 with (
   go_at_call 24
   refine (rf_diff HR0c.out HRLc.out HOK.out.rise.1 HOK.out.rise.2 hl0b hl3b).mono ?_
   rintro e w7 ⟨A9,q9,out,rfl,hown,hdif,hfew,hb⟩
   have HOW:=Lib.hid hown
   have HCH:=Lib.hid (HOK.out.chg out hdif.ok hdif.nodup)
   have HFO:Hid (out.length≤2000000):=Lib.hid (by omega)
   have HA1d:=Lib.hid (blk_below HA1c.out hb)
   have HA2d:=Lib.hid (blk_below HA2c.out hb)
   have HBX:=Lib.hid (bl_t HBXc.out hb)
   clear hown hdif hfew hb)
  have x10:w7.cell? ⟨r1,0,none⟩=some (.int .i64 0):=(HA1d.out.cell 0).trans (by rw [← HOK.out.code]; rfl)
  have x14:w7.cell? ⟨r1,4,none⟩=some (.int .i64 p1.ino):=HA1d.out.cell 4
  have x24:w7.cell? ⟨r2,4,none⟩=some (.int .i64 p2.ino):=HA2d.out.cell 4
  have hgu:(p2.ino == p1.ino)=true∧((out.length:Int) != 0)=false∨(p2.ino == p1.ino)=false:=by
   by_cases e:p2.ino=p1.ino
   ·have:=HCH.out.1 e
    subst this
    exact .inl ⟨by simpa using e,rfl⟩
   ·exact .inr (by simpa using e)
  clear HA1c HA2c HR0c HRLc HBXc
  have HGU:=Lib.hid hgu
  clear hgu
  go_cut [98] (fun v98 wx=>v98=.bool false∧wx=w7)
  case first=>
   rcases HGU.out with ⟨hg1,hg2⟩ | hg1
   all_goals go_wp2_with fail
   all_goals go_meet
   all_goals exact ⟨rfl,rfl⟩
  case rest=>
   obtain ⟨rfl,rfl⟩:=hcut
   obtain ⟨W7,hW7⟩:∃ W7,W7=wc:=⟨_,rfl⟩
   go_upto_region 17 with fail
   have HT2:=Lib.hid HCH.out.2.1
   have HB0:Hid (Below wc.heap.size wc wc):=Lib.hid (Below.refl _ _)
   clear hW7 W7 x10 x14 x24 HA1d HGU
   generalize wc=W8 at *
   go_loopw [17,18,19,20,21] (fun v17 v18 _ _ _ wr=>∃ k:Nat,v18=.int .i64 k∧k≤out.length∧v17=.int .i64 ((((out.take k).filter isD).length:Nat):Int)∧Hid (Below W8.heap.size W8 wr)) (fun _ v18 _ _ _ _=>out.length - (intOf v18).toNat)
   case atStart=>exact ⟨0,rfl,Nat.zero_le _,rfl,HB0⟩
   case round=>
    obtain ⟨k,rfl,hko,rfl,HB⟩:=hrel
    have hfo:=HFO.out
    by_cases hlt:k < out.length
    ·have hx:out[k]? = some out[k]:=List.getElem?_eq_getElem hlt
     have hmem:out[k]∈out:=List.getElem_mem hlt
     have hch:=HCH.out.2.2 _ hmem
     have htm:=take_more hx
     generalize out[k]=x at *
     have HX:=Lib.hid hx
     have HTM:=Lib.hid htm
     have HOWr:=Lib.hid (own_keep HOW.out (Keep.of_below HB.out (fun _=>False)) (fun _ _ h=>h))
     obtain ⟨g9,c9,hv9,_,_⟩:=own_block HOWr.out (by omega)
     cases hv9
     have cK:wr.cell? ⟨g9,k * 5,none⟩=some (.string x.key):=ch_cell HOWr.out (j:=0) (by decide) hx rfl
     have cO:wr.cell? ⟨g9,k * 5+3,none⟩=some (.string x.old):=ch_cell HOWr.out (j:=3) (by decide) hx rfl
     have x24:wr.cell? ⟨r2,4,none⟩=some (.int .i64 p2.ino):=(blk_below HA2d.out HB.out).cell 4
     have x20:wr.cell? ⟨r2,0,none⟩=some (.int .i64 p2.code):=(blk_below HA2d.out HB.out).cell 0
     have hix:=ix_string x.key 0 hch.1
     simp only [Int.natCast_zero] at hix
     have hcz:((out.take k).filter isD).length≤out.length:=Nat.le_trans (List.length_filter_le _ _) (by rw [List.length_take]; omega)
     have HCZ:=Lib.hid hcz
     have HCHx:=Lib.hid hch
     clear hx hmem hch htm hcz
     obtain ⟨key,had,has,old,new⟩:=x
     simp only at cK cO hix
     cases hD:isD ⟨key,had,has,old,new⟩
     ·obtain ⟨hpc,hmine⟩:=HCHx.out.2 hD
      rw [hpc] at x20
      have HDD:=Lib.hid hD
      clear hD
      rcases hmine with ⟨ix,he0,hk⟩ | ⟨nd,he0,hk,hr,ht,ho0⟩ | ⟨nm,he0,hk⟩
      ·have he:key=kkText (.pc p2.ino ix):=he0
       clear he0
       have hbt:bt key 0=112:=by rw [he]; exact bt_pc hk
       rw [hbt] at hix
       have HTK0:=ref_take_pc (c:=1) (ov:=old) hk (rd_new wr.drew (kkText (.pc p2.ino ix)) old)
       rw [← he] at HTK0
       have HTK:=Lib.hid HTK0
       clear HTK0
       clear he hbt
       go_upto_region 21 with fail
       have hS0:(fun w'=>w'.cell? ⟨g9,k * 5,none⟩=some (.string key)∧w'.cell? ⟨g9,k * 5+3,none⟩=some (.string old)) wr.drew:=⟨cK,cO⟩
       refine wp_region_T (S:=(fun w'=>w'.cell? ⟨g9,k * 5,none⟩=some (.string key)∧w'.cell? ⟨g9,k * 5+3,none⟩=some (.string old))) (t:=17) (by kernel_rfl) ?_
       refine' T2 (v:=_) 0 rfl (Or.inl ⟨by rfl,?hya0⟩) ?resta0
       case hya0=>intro w hSw; (try dsimp only at hSw); go_simp; (try with_reducible rfl)
       refine' T2 (v:=_) 1 rfl (Or.inl ⟨by rfl,?hya1⟩) ?resta1
       case hya1=>intro w hSw; (try dsimp only at hSw); go_simp; (try with_reducible rfl)
       refine' T2 (v:=_) 2 rfl (Or.inl ⟨by rfl,?hya2⟩) ?resta2
       case hya2=>intro w hSw; (try dsimp only at hSw); go_simp; (try with_reducible rfl)
       refine' T2 (v:=_) 3 rfl (Or.inl ⟨by rfl,?hya3⟩) ?resta3
       case hya3=>intro w hSw; (try dsimp only at hSw); go_simp; (try with_reducible rfl)
       refine' T2 (v:=_) 4 rfl (Or.inl ⟨by rfl,?hya4⟩) ?resta4
       case hya4=>intro w hSw; (try dsimp only at hSw); go_simp; (try with_reducible rfl)
       refine' T2 (v:=_) 5 rfl (Or.inl ⟨by rfl,?hya5⟩) ?resta5
       case hya5=>intro w hSw; (try dsimp only at hSw); go_simp; (try with_reducible rfl)
       refine' T2 (v:=_) 6 rfl (Or.inl ⟨by rfl,?hya6⟩) ?resta6
       case hya6=>intro w hSw; (try dsimp only at hSw); go_simp; (try with_reducible rfl)
       refine' T2 (v:=_) 7 rfl (Or.inl ⟨by rfl,?hya7⟩) ?resta7
       case hya7=>intro w hSw; (try dsimp only at hSw); go_simp; (try with_reducible rfl)
       refine' T2 (v:=_) 8 rfl (Or.inl ⟨by rfl,?hya8⟩) ?resta8
       case hya8=>intro w hSw; (try dsimp only at hSw); go_simp; (try with_reducible rfl)
       refine' T2 (v:=_) 9 rfl (Or.inl ⟨by rfl,?hya9⟩) ?resta9
       case hya9=>intro w hSw; (try dsimp only at hSw); go_simp; (try with_reducible rfl)
       refine' T2 (v:=_) 10 rfl (Or.inl ⟨by rfl,?hya10⟩) ?resta10
       case hya10=>intro w hSw; (try dsimp only at hSw); go_simp; (try with_reducible rfl)
       try simp only [Act.put,List.setIfInBounds_toArray,List.set_cons_zero,List.set_cons_succ]
       have hbA:Below wr.heap.size wr (wr.drew.alloc (.cells #[.string key,.string old] 59)):=((Below.refl _ wr).drew).alloc (Nat.le_refl _) _
       have aK:=keepc' hbA cK
       have aO:=keepc' hbA cO
       refine wpAnyT_one 11 (by kernel_rfl) rfl (fun K hK=>?_)
       go_simp
       refine hK.out _ _ (fun _=>⟨aK,aO⟩) ?_
       clear hK K
       refine wpAnyT_one 12 (by kernel_rfl) rfl (fun K hK=>?_)
       go_simp
       go_at_call 25
       refine HTK.out.mono ?_
       rintro e w9 ⟨rfl,hb9⟩
       have hb10:Below wr.heap.size wr w9:=((Below.refl _ _).drew.alloc (Nat.le_refl _) _).trans (hb9.mono (by simp))
       have HB10:=Lib.hid (bl_t HB.out hb10)
       have y24:=keepc' hb10 x24
       have y20:=keepc' hb10 x20
       have yK:=keepc' hb10 cK
       have yO:=keepc' hb10 cO
       have hS9:(fun w'=>w'.cell? ⟨g9,k * 5,none⟩=some (.string key)∧w'.cell? ⟨g9,k * 5+3,none⟩=some (.string old)) w9:=⟨yK,yO⟩
       clear hb9 hb10
       refine hK.out _ _ (fun _=>⟨yK,yO⟩) ?_
       clear hK K
       refine wpAnyT_one 13 (by kernel_rfl) rfl (fun K hK=>?_)
       go_simp
       refine hK.out _ _ (fun _=>⟨yK,yO⟩) ?_
       clear hK K
       refine' T2 (v:=_) 14 rfl (Or.inl ⟨by rfl,?hya14⟩) ?resta14
       case hya14=>intro w hSw; (try dsimp only at hSw); go_simp; (try with_reducible rfl)
       refine' T2 (v:=_) 15 rfl (Or.inl ⟨by rfl,?hya15⟩) ?resta15
       case hya15=>intro w hSw; (try dsimp only at hSw); go_simp; (try with_reducible rfl)
       refine' T2 (v:=_) 16 rfl (Or.inl ⟨by rfl,?hya16⟩) ?resta16
       case hya16=>intro w hSw; (try dsimp only at hSw); go_simp; (try with_reducible rfl)
       try simp only [Act.put,List.setIfInBounds_toArray,List.set_cons_zero,List.set_cons_succ]
       refine wpAnyT_one 17 (by kernel_rfl) rfl (fun K hK=>?_)
       go_simp
       refine hK.out _ _ (fun h=>absurd rfl h) ?_
       clear hK K
       refine wpAnyT_done (by kernel_rfl) ?_
       go_upto_region 22 with fail
       clear x24 x20 cK cO
       go_quiet (fail)
       go_wp2_with fail
       go_roundw
       case rel=>exact ⟨k+1,by go_num,by omega,by rw [HTM.out,HDD.out]; simp,Lib.hid (bl_t HB10.out (below_drewN (Below.refl _ _) nq))⟩
       case measure=>simp [intOf]; omega
      ·have he:key=kkText (.nd p2.ino):=he0
       have ho:old=encS nd:=ho0
       clear he0 ho0
       have hbt:bt key 0=105:=by rw [he]; exact bt_nd hk
       rw [hbt] at hix
       have HTK0:=ref_take_nd (c:=1) hk hr ht (by have:=encS_few hr; omega) (rd_new wr.drew (kkText (.nd p2.ino)) (encS nd))
       rw [← he,← ho] at HTK0
       have HTK:=Lib.hid HTK0
       clear HTK0
       clear he hbt ho
       go_upto_region 21 with fail
       have hS0:(fun w'=>w'.cell? ⟨g9,k * 5,none⟩=some (.string key)∧w'.cell? ⟨g9,k * 5+3,none⟩=some (.string old)) wr.drew:=⟨cK,cO⟩
       refine wp_region_T (S:=(fun w'=>w'.cell? ⟨g9,k * 5,none⟩=some (.string key)∧w'.cell? ⟨g9,k * 5+3,none⟩=some (.string old))) (t:=17) (by kernel_rfl) ?_
       refine' T2 (v:=_) 0 rfl (Or.inl ⟨by rfl,?hyb0⟩) ?restb0
       case hyb0=>intro w hSw; (try dsimp only at hSw); go_simp; (try with_reducible rfl)
       refine' T2 (v:=_) 1 rfl (Or.inl ⟨by rfl,?hyb1⟩) ?restb1
       case hyb1=>intro w hSw; (try dsimp only at hSw); go_simp; (try with_reducible rfl)
       refine' T2 (v:=_) 2 rfl (Or.inl ⟨by rfl,?hyb2⟩) ?restb2
       case hyb2=>intro w hSw; (try dsimp only at hSw); go_simp; (try with_reducible rfl)
       refine' T2 (v:=_) 3 rfl (Or.inl ⟨by rfl,?hyb3⟩) ?restb3
       case hyb3=>intro w hSw; (try dsimp only at hSw); go_simp; (try with_reducible rfl)
       refine' T2 (v:=_) 4 rfl (Or.inl ⟨by rfl,?hyb4⟩) ?restb4
       case hyb4=>intro w hSw; (try dsimp only at hSw); go_simp; (try with_reducible rfl)
       refine' T2 (v:=_) 5 rfl (Or.inl ⟨by rfl,?hyb5⟩) ?restb5
       case hyb5=>intro w hSw; (try dsimp only at hSw); go_simp; (try with_reducible rfl)
       refine' T2 (v:=_) 6 rfl (Or.inl ⟨by rfl,?hyb6⟩) ?restb6
       case hyb6=>intro w hSw; (try dsimp only at hSw); go_simp; (try with_reducible rfl)
       refine' T2 (v:=_) 7 rfl (Or.inl ⟨by rfl,?hyb7⟩) ?restb7
       case hyb7=>intro w hSw; (try dsimp only at hSw); go_simp; (try with_reducible rfl)
       refine' T2 (v:=_) 8 rfl (Or.inl ⟨by rfl,?hyb8⟩) ?restb8
       case hyb8=>intro w hSw; (try dsimp only at hSw); go_simp; (try with_reducible rfl)
       refine' T2 (v:=_) 9 rfl (Or.inl ⟨by rfl,?hyb9⟩) ?restb9
       case hyb9=>intro w hSw; (try dsimp only at hSw); go_simp; (try with_reducible rfl)
       refine' T2 (v:=_) 10 rfl (Or.inl ⟨by rfl,?hyb10⟩) ?restb10
       case hyb10=>intro w hSw; (try dsimp only at hSw); go_simp; (try with_reducible rfl)
       try simp only [Act.put,List.setIfInBounds_toArray,List.set_cons_zero,List.set_cons_succ]
       have hbA:Below wr.heap.size wr (wr.drew.alloc (.cells #[.string key,.string old] 59)):=((Below.refl _ wr).drew).alloc (Nat.le_refl _) _
       have aK:=keepc' hbA cK
       have aO:=keepc' hbA cO
       refine wpAnyT_one 11 (by kernel_rfl) rfl (fun K hK=>?_)
       go_simp
       refine hK.out _ _ (fun _=>⟨aK,aO⟩) ?_
       clear hK K
       refine wpAnyT_one 12 (by kernel_rfl) rfl (fun K hK=>?_)
       go_simp
       go_at_call 25
       refine HTK.out.mono ?_
       rintro e w9 ⟨⟨gn,cn,rfl,⟨hbf,hcg⟩,_⟩,hb9⟩
       have hb10:Below wr.heap.size wr w9:=((Below.refl _ _).drew.alloc (Nat.le_refl _) _).trans (hb9.mono (by simp))
       have HB10:=Lib.hid (bl_t HB.out hb10)
       have y24:=keepc' hb10 x24
       have y20:=keepc' hb10 x20
       have yK:=keepc' hb10 cK
       have f1:=hbf.cell 1
       have f3:=hbf.cell 3
       simp only [rfC,List.getElem?_toArray,List.getElem?_cons_zero,List.getElem?_cons_succ] at f1 f3
       rw [show (wr.drew.alloc (.cells #[.string key,.string old] 59)).heap.size=wr.heap.size+1 by simp] at f1 f3
       clear hbf
       have yO:=keepc' hb10 cO
       have hS9:(fun w'=>w'.cell? ⟨g9,k * 5,none⟩=some (.string key)∧w'.cell? ⟨g9,k * 5+3,none⟩=some (.string old)) w9:=⟨yK,yO⟩
       clear hb9 hb10
       refine hK.out _ _ (fun _=>⟨yK,yO⟩) ?_
       clear hK K
       refine wpAnyT_one 13 (by kernel_rfl) rfl (fun K hK=>?_)
       go_simp
       refine hK.out _ _ (fun _=>⟨yK,yO⟩) ?_
       clear hK K
       refine' T2 (v:=_) 14 rfl (Or.inl ⟨by rfl,?hyb14⟩) ?restb14
       case hyb14=>intro w hSw; (try dsimp only at hSw); go_simp; (try with_reducible rfl)
       refine' T2 (v:=_) 15 rfl (Or.inl ⟨by rfl,?hyb15⟩) ?restb15
       case hyb15=>intro w hSw; (try dsimp only at hSw); go_simp; (try with_reducible rfl)
       refine' T2 (v:=_) 16 rfl (Or.inl ⟨by rfl,?hyb16⟩) ?restb16
       case hyb16=>intro w hSw; (try dsimp only at hSw); go_simp; (try with_reducible rfl)
       try simp only [Act.put,List.setIfInBounds_toArray,List.set_cons_zero,List.set_cons_succ]
       refine wpAnyT_one 17 (by kernel_rfl) rfl (fun K hK=>?_)
       go_simp
       refine hK.out _ _ (fun h=>absurd rfl h) ?_
       clear hK K
       refine wpAnyT_done (by kernel_rfl) ?_
       go_upto_region 22 with fail
       clear x24 x20 cK cO
       unfold Pa
       go_quiet (fail)
       go_wp2_with fail
       go_roundw
       case rel=>exact ⟨k+1,by go_num,by omega,by rw [HTM.out,HDD.out]; simp,Lib.hid (bl_t HB10.out (below_drewN (Below.refl _ _) nq))⟩
       case measure=>simp [intOf]; omega
      ·have he:key=kkText (.xa p2.ino nm):=he0
       clear he0
       have hbt:bt key 0=120:=by rw [he]; exact bt_xa hk
       rw [hbt] at hix
       have HTK0:=ref_take_xa (c:=1) (ov:=old) hk (rd_new wr.drew (kkText (.xa p2.ino nm)) old)
       rw [← he] at HTK0
       have HTK:=Lib.hid HTK0
       clear HTK0
       clear he hbt
       go_upto_region 21 with fail
       have hS0:(fun w'=>w'.cell? ⟨g9,k * 5,none⟩=some (.string key)∧w'.cell? ⟨g9,k * 5+3,none⟩=some (.string old)) wr.drew:=⟨cK,cO⟩
       refine wp_region_T (S:=(fun w'=>w'.cell? ⟨g9,k * 5,none⟩=some (.string key)∧w'.cell? ⟨g9,k * 5+3,none⟩=some (.string old))) (t:=17) (by kernel_rfl) ?_
       refine' T2 (v:=_) 0 rfl (Or.inl ⟨by rfl,?hyc0⟩) ?restc0
       case hyc0=>intro w hSw; (try dsimp only at hSw); go_simp; (try with_reducible rfl)
       refine' T2 (v:=_) 1 rfl (Or.inl ⟨by rfl,?hyc1⟩) ?restc1
       case hyc1=>intro w hSw; (try dsimp only at hSw); go_simp; (try with_reducible rfl)
       refine' T2 (v:=_) 2 rfl (Or.inl ⟨by rfl,?hyc2⟩) ?restc2
       case hyc2=>intro w hSw; (try dsimp only at hSw); go_simp; (try with_reducible rfl)
       refine' T2 (v:=_) 3 rfl (Or.inl ⟨by rfl,?hyc3⟩) ?restc3
       case hyc3=>intro w hSw; (try dsimp only at hSw); go_simp; (try with_reducible rfl)
       refine' T2 (v:=_) 4 rfl (Or.inl ⟨by rfl,?hyc4⟩) ?restc4
       case hyc4=>intro w hSw; (try dsimp only at hSw); go_simp; (try with_reducible rfl)
       refine' T2 (v:=_) 5 rfl (Or.inl ⟨by rfl,?hyc5⟩) ?restc5
       case hyc5=>intro w hSw; (try dsimp only at hSw); go_simp; (try with_reducible rfl)
       refine' T2 (v:=_) 6 rfl (Or.inl ⟨by rfl,?hyc6⟩) ?restc6
       case hyc6=>intro w hSw; (try dsimp only at hSw); go_simp; (try with_reducible rfl)
       refine' T2 (v:=_) 7 rfl (Or.inl ⟨by rfl,?hyc7⟩) ?restc7
       case hyc7=>intro w hSw; (try dsimp only at hSw); go_simp; (try with_reducible rfl)
       refine' T2 (v:=_) 8 rfl (Or.inl ⟨by rfl,?hyc8⟩) ?restc8
       case hyc8=>intro w hSw; (try dsimp only at hSw); go_simp; (try with_reducible rfl)
       refine' T2 (v:=_) 9 rfl (Or.inl ⟨by rfl,?hyc9⟩) ?restc9
       case hyc9=>intro w hSw; (try dsimp only at hSw); go_simp; (try with_reducible rfl)
       refine' T2 (v:=_) 10 rfl (Or.inl ⟨by rfl,?hyc10⟩) ?restc10
       case hyc10=>intro w hSw; (try dsimp only at hSw); go_simp; (try with_reducible rfl)
       try simp only [Act.put,List.setIfInBounds_toArray,List.set_cons_zero,List.set_cons_succ]
       have hbA:Below wr.heap.size wr (wr.drew.alloc (.cells #[.string key,.string old] 59)):=((Below.refl _ wr).drew).alloc (Nat.le_refl _) _
       have aK:=keepc' hbA cK
       have aO:=keepc' hbA cO
       refine wpAnyT_one 11 (by kernel_rfl) rfl (fun K hK=>?_)
       go_simp
       refine hK.out _ _ (fun _=>⟨aK,aO⟩) ?_
       clear hK K
       refine wpAnyT_one 12 (by kernel_rfl) rfl (fun K hK=>?_)
       go_simp
       go_at_call 25
       refine HTK.out.mono ?_
       rintro e w9 ⟨⟨gn,cn,rfl,⟨hbf,hcg⟩,_⟩,hb9⟩
       have hb10:Below wr.heap.size wr w9:=((Below.refl _ _).drew.alloc (Nat.le_refl _) _).trans (hb9.mono (by simp))
       have HB10:=Lib.hid (bl_t HB.out hb10)
       have y24:=keepc' hb10 x24
       have y20:=keepc' hb10 x20
       have yK:=keepc' hb10 cK
       have f1:=hbf.cell 1
       have f3:=hbf.cell 3
       simp only [rfC,List.getElem?_toArray,List.getElem?_cons_zero,List.getElem?_cons_succ] at f1 f3
       rw [show (wr.drew.alloc (.cells #[.string key,.string old] 59)).heap.size=wr.heap.size+1 by simp] at f1 f3
       clear hbf
       have yO:=keepc' hb10 cO
       have hS9:(fun w'=>w'.cell? ⟨g9,k * 5,none⟩=some (.string key)∧w'.cell? ⟨g9,k * 5+3,none⟩=some (.string old)) w9:=⟨yK,yO⟩
       clear hb9 hb10
       refine hK.out _ _ (fun _=>⟨yK,yO⟩) ?_
       clear hK K
       refine wpAnyT_one 13 (by kernel_rfl) rfl (fun K hK=>?_)
       go_simp
       refine hK.out _ _ (fun _=>⟨yK,yO⟩) ?_
       clear hK K
       refine' T2 (v:=_) 14 rfl (Or.inl ⟨by rfl,?hyc14⟩) ?restc14
       case hyc14=>intro w hSw; (try dsimp only at hSw); go_simp; (try with_reducible rfl)
       refine' T2 (v:=_) 15 rfl (Or.inl ⟨by rfl,?hyc15⟩) ?restc15
       case hyc15=>intro w hSw; (try dsimp only at hSw); go_simp; (try with_reducible rfl)
       refine' T2 (v:=_) 16 rfl (Or.inl ⟨by rfl,?hyc16⟩) ?restc16
       case hyc16=>intro w hSw; (try dsimp only at hSw); go_simp; (try with_reducible rfl)
       try simp only [Act.put,List.setIfInBounds_toArray,List.set_cons_zero,List.set_cons_succ]
       refine wpAnyT_one 17 (by kernel_rfl) rfl (fun K hK=>?_)
       go_simp
       refine hK.out _ _ (fun h=>absurd rfl h) ?_
       clear hK K
       refine wpAnyT_done (by kernel_rfl) ?_
       go_upto_region 22 with fail
       clear x24 x20 cK cO
       unfold Pa
       go_quiet (fail)
       go_wp2_with fail
       go_roundw
       case rel=>exact ⟨k+1,by go_num,by omega,by rw [HTM.out,HDD.out]; simp,Lib.hid (bl_t HB10.out (below_drewN (Below.refl _ _) nq))⟩
       case measure=>simp [intOf]; omega
     ·have hb:(bt key 0 == 100)=true:=hD
      have hcz:=HCZ.out
      generalize bt key 0=b at *
      go_wp2_with fail
      go_roundw
      case rel=>exact ⟨k+1,by go_num,by omega,by rw [HTM.out,hD]; go_num,HB⟩
      case measure=>simp [intOf]; omega
    ·obtain rfl:k=out.length:=by omega
     have ht2:=HT2.out
     rw [List.take_length] at *
     have hd:decide ((((out.filter isD).length:Nat):Int)≤2)=true:=by simp; omega
     go_wp2_with fail
     go_ret
     exact ⟨rfl,bl_t HBX.out HB.out⟩
end Go.Proofs.YtpboohfofodeeaaGreatDoor
