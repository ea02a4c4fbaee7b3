/- state: linked (conditions: none). -/
import Derived.Test.YtpboohfofodeeaaGreatDoorM09
import Derived.Test.YtpboohfofodeeaaGreatDoorM08
import Derived.Test.YtpboohfofodeeaaGreatDoorM04
import Derived.Test.YtpboohfofodeeaaGreatDoorM06
namespace Go.Proofs.YtpboohfofodeeaaGreatDoor
open Go.RowKit Go.Maps
/-- A slot's path comes from the root, and isn't too long. -/
def fitsP (H : Int → List SlotK) (s : SlotK) : Prop:=∃ p,pathOf H s = some p ∧ p.size ≤ 1023
def nodeLinked (H : Int → List SlotK) (k : Int) (a : NodeA) : Prop:=(k ≠ 1 → ((H k).length : Int) = a.nd.links) ∧ ∀ s ∈ H k,fitsP H s
def linkedP (H : Int → List SlotK) (N : Int → Option NodeA) : Prop:=∀ k a,N k = some a → nodeLinked H k a
theorem row_at {w : World} {base n q : Nat} {A : Option Addr} {l : List SlotK} (h : w.ownsRow base 96 2 (.slice A n q) n (slCs l)) {i : Nat} (hi : i < n) (hl : n = l.length) : ∃ (g : Nat) (h : i < l.length),A = some ⟨g,0,none⟩ ∧ w.cell? ⟨g,i * 2,none⟩ = some (.int .i64 l[i].1.1) ∧ w.cell? ⟨g,i * 2 + 1,none⟩ = some (.string l[i].1.2):=by
 have hil : i < l.length:=by omega
 rcases h.2 with ⟨_,h0⟩ | ⟨g,cap,cur,hv,_,hb,h1,_,h3,h4⟩
 ·omega
 ·cases hv
  have hf:=flat_at slC (fun _=>rfl) l
  refine ⟨g,hil,rfl,?_,?_⟩
  ·have e1 : (cur.toList.take (n * 2))[i * 2]? = (slCs l)[i * 2]?:=by rw [h4]
   rw [List.getElem?_take_of_lt (by omega),Array.getElem?_toList] at e1
   simp only [World.cell?,hb]
   rw [e1]
   show (l.flatMap slC)[i * 2]? = _
   rw [hf,show (i * 2) / 2 = i by omega,show (i * 2) % 2 = 0 by omega,List.getElem?_eq_getElem hil]
   rfl
  ·have e1 : (cur.toList.take (n * 2))[i * 2 + 1]? = (slCs l)[i * 2 + 1]?:=by rw [h4]
   rw [List.getElem?_take_of_lt (by omega),Array.getElem?_toList] at e1
   simp only [World.cell?,hb]
   rw [e1]
   show (l.flatMap slC)[i * 2 + 1]? = _
   rw [hf,show (i * 2 + 1) / 2 = i by omega,show (i * 2 + 1) % 2 = 1 by omega,List.getElem?_eq_getElem hil]
   rfl
theorem own_len {w : World} {base n : Nat} {e : TypeId} {size : Nat} {v : Value} {l : List Value} (h : w.ownsRow base e size v n l) : n ≤ maxLen:=by
 rcases h.2 with ⟨_,h0⟩ | ⟨g,cap,cur,rfl,_,_,h1,h2,_⟩
 ·omega
 ·omega
theorem row_below {w w' : World} {base n : Nat} {v : Value} {l : List Value} (h : w.ownsRow base 96 2 v n l) (hb : Below w.heap.size w w') : w'.ownsRow base 96 2 v n l:=own_keep h (Keep.of_below hb (fun _=>False)) (fun _ _ h=>h)
def LnkEnds (G : SlotK → Option Int) (N : Int → Option NodeA) (e : Ending) : Prop:=∃ H,SlotsP G H ∧ TellsP (linkedP H N) e
set_option maxRecDepth 100000 in
set_option maxHeartbeats 4000000 in
theorem st_linked {w : World} {f b m n n2 : Nat} {next : Int} {F : Int → Option Value} {N : Int → Option NodeA} {G : SlotK → Option Int} (hf : Blk w f 91 #[.int .i64 next,.map (some b),.map (some m)]) (hm : NodesM w b F n) (hg : MapK (fun k : SlotK=>litSl k.1) Tryz.prog 96 w m (nmV G) n2) (hn : NodesB w F N)
 (hw : ∀ s i,G s = some i → (Lit.int .i64 i).wf = true) (hn2 : n2 ≤ 1099511627776) (hz : ∀ s i,G s = some i → s.1.2.size ≤ 255) :
 Calls Tryz.prog 48 #[.pointer (some ⟨f,0,none⟩)] w fun e w'=>LnkEnds G N e ∧ Below w.heap.size w w':=by
 have c2 : w.cell? ⟨f,2,none⟩ = some (.map (some m)):=hf.cell 2
 have hS:=Lib.hid (st_slots sort_slots c2 hg hw hn2)
 have HF:=Lib.hid hf
 have HM:=Lib.hid hm
 have HN:=Lib.hid hn
 have HZ:=Lib.hid hz
 clear hf hm hg hn c2 hw hz
 go_enter Tryz.func48,Tryz.ntmps48
 go_wp2_with (
  go_at_call 37
  refine hS.out.mono ?_
  rintro e w1 ⟨mo,no,F2,H,rfl,q1,q2,q3,q4,q5⟩
  have hf1:=blk_below HF.out q5
  have d1 : w1.cell? ⟨f,1,none⟩ = some (.map (some b)):=hf1.cell 1
  have hm1 : NodesM w1 b F n:=MapI.keep HM.out (Keep.of_below q5 (fun _=>False)) (fun h=>h)
  obtain ⟨w2,hrun,hrg,hgr,hs2⟩:=MapI.range_ hm1 Tryz.underlying3 Tryz.underlying88
  have hb12 : Below w1.heap.size w1 w2:=(Keep.of_grown hgr (fun _=>False) (fun k hk=>by cases hk)).to_below (Nat.le_refl _) (fun _ h=>h.elim)
  have hb2 : Below w.heap.size w w2:=bl_t q5 hb12
  have hno : ∀ k,N k = none → F k = none:=fun k h=>by
   rcases HN.out k with ⟨x,_⟩ | ⟨v,a,_,y,_⟩
   ·exact x
   ·rw [h] at y; cases y
  have HRG:=Lib.hid hrg
  have HB2:=Lib.hid hb12
  have HB1:=Lib.hid q5
  have HMO:=Lib.hid q2
  have HRO:=Lib.hid q3
  have HSP:=Lib.hid q4
  clear q1 q2 q3 q4 q5 hf1 hm1 hrg hgr hb12 hb2 hno)
 clear hrun d1
 go_loopw [4,5] (fun _ _ wr=>∃ left cnt,RngI Tryz.prog 3 wr b w1.heap.size F n left cnt ∧ Below w1.heap.size w1 wr ∧ Hid (∀ k a,N k = some a → left k = false → nodeLinked H k a)) (fun _ _ wr=>wr.rangeLeft b w1.heap.size)
 case atStart=>exact ⟨_,_,HRG.out,HB2.out,Lib.hid (fun k a h1 h2=>by
  rcases HN.out k with ⟨_,y⟩ | ⟨v,a',x,_,_⟩
  ·rw [y] at h1; cases h1
  ·rw [x] at h2; cases h2)⟩
 case round=>
  obtain ⟨left,cnt,hrg2,hb,HLT⟩:=hrel
  rcases hrg2.next_ Tryz.underlying3 0 with ⟨h0,hl,hN⟩ | ⟨k,v,w3,cnt',hk,hFk,hwf,hN,hrg3,hlt,hg,hs,hE⟩
  ·have hyes : Hid (LnkEnds G N (.returned (.bool true)) ∧ Below w.heap.size w wr):=Lib.hid ⟨⟨H,HSP.out,true,rfl,⟨fun _ k a h=>HLT.out k a h (hl k),fun _=>rfl⟩⟩,bl_t HB1.out hb⟩
   clear hrg2
   go_wp2
   go_ret
   exact hyes.out
  ·have hkr : Keep (fun i=>i = w1.heap.size) wr w3:=Keep.of_grown hg _ (fun k hk=>by cases hk; exact .inl rfl)
   have hb3 : Below w1.heap.size w1 w3:=hb.trans (hkr.to_below hb.size (fun i h=>by omega))
   obtain ⟨a,hNa,hB⟩ : ∃ a,N k = some a ∧ NodeB w v a:=by
    rcases HN.out k with ⟨x,_⟩ | ⟨v',a',x,y,z⟩
    ·rw [x] at hFk; cases hFk
    ·rw [x] at hFk; cases hFk; exact ⟨a',y,z⟩
   obtain ⟨g,A,pn,pc,ab,an,rfl,h2,_,_,_⟩:=hB
   have h23 : Blk w3 g 135 (nodeC a.nd (.slice A pn pc) ab):=blk_below h2 (bl_t HB1.out hb3)
   have hmo3:=HMO.out.keep (Keep.of_below hb3 (fun _=>False)) (fun h=>h)
   have hro3:=HRO.out.below hb3
   have hmeas : ∀ w4,Below w3.heap.size w3 w4 → w4.rangeLeft b w1.heap.size < wr.rangeLeft b w1.heap.size:=fun w4 h=>by rw [(hrg3.below h).left_eq,hrg2.left_eq]; omega
   have HMEAS:=Lib.hid hmeas
   have hno : ¬ nodeLinked H k a → Hid (LnkEnds G N (.returned (.bool false))):=fun h=>Lib.hid ⟨H,HSP.out,false,rfl,⟨fun h=>(by cases h),fun hr=>absurd (hr k a hNa) h⟩⟩
   have HNO:=Lib.hid hno
   have hgo : nodeLinked H k a → Hid (∀ x y,N x = some y → (left x && !(decide (x = k))) = false → nodeLinked H x y):=fun h=>Lib.hid fun x y h1 h2=>by
    by_cases e : x = k
    ·subst e; rw [hNa] at h1; cases h1; exact h
    ·exact HLT.out x y h1 (by simpa [e] using h2)
   have HGO:=Lib.hid hgo
   have HRG3:=Lib.hid hrg3
   have HB3:=Lib.hid hb3
   have HMO3:=Lib.hid hmo3
   have HRO3:=Lib.hid hro3
   have hrow:=hro3.get k
   have hL:=fun d os=>MapI.look (hmo3.keep (Keep.of_below (below_regrown w3 d os) (fun _=>False)) (fun h=>h)) Tryz.underlying3 Tryz.underlying92 (show (zeroValue 97).run Tryz.prog (Sort.grow (redrawn w3 d) os) = .ok (.slice none 0 0) (Sort.grow (redrawn w3 d) os) by simp [go_sem]) false k hwf
   obtain ⟨A2,q2,hv⟩:=own_slice hrow
   rw [hv] at hrow
   simp only [hv,Bool.false_eq_true,if_false] at hL
   have HROW:=Lib.hid hrow
   have e3:=cell_regrown (show w3.cell? ⟨g,3,none⟩ = some (.int .i64 a.nd.links) from h23.cell 3)
   clear hrow hrg3 hb3 hmo3 hro3 hmeas hno hgo hrg2 hb h2 h23 hkr hg
   go_upto_region 5 with fail
   go_cut [35] (fun t w4=>∃ q : Bool,t = .bool q ∧ Below w3.heap.size w3 w4 ∧ (q = false ↔ (k ≠ 1 → ((H k).length : Int) = a.nd.links)))
   case first=>
    by_cases hk1 : k = 1
    ·have g1 : (k != 1) = false:=by simpa using hk1
     refine wp_region_quiet_below (by kernel_rfl) (by kernel_rfl) ?_
     repeat (go_big_quiet_step (fail))
     refine wpQuiet_nil ?_
     intro _ hw'
     obtain ⟨⟨dq,osq⟩,hw''⟩:=hw'
     subst hw''
     go_wp2_with fail
     go_meet
     exact ⟨false,rfl,below_regrown w3 dq osq,by simp [hk1]⟩
    ·have g1 : (k != 1) = true:=by simpa using hk1
     by_cases hlen : ((H k).length : Int) = a.nd.links
     ·have g2 : (((H k).length : Int) != a.nd.links) = false:=by simpa using hlen
      refine wp_region_quiet_below (by kernel_rfl) (by kernel_rfl) ?_
      repeat (go_big_quiet_step (fail))
      refine wpQuiet_nil ?_
      intro _ hw'
      obtain ⟨⟨dq,osq⟩,hw''⟩:=hw'
      subst hw''
      go_wp2_with fail
      go_meet
      exact ⟨false,rfl,below_regrown w3 dq osq,by simp [hlen]⟩
     ·have g2 : (((H k).length : Int) != a.nd.links) = true:=by simpa using hlen
      refine wp_region_quiet_below (by kernel_rfl) (by kernel_rfl) ?_
      repeat (go_big_quiet_step (fail))
      refine wpQuiet_nil ?_
      intro _ hw'
      obtain ⟨⟨dq,osq⟩,hw''⟩:=hw'
      subst hw''
      go_wp2_with fail
      go_meet
      exact ⟨true,rfl,below_regrown w3 dq osq,by simp [hlen,hk1]⟩
   case rest=>
    obtain ⟨q,rfl,hb4,hqq⟩:=hcut
    cases q with
    | true=>
     have hno:=HNO.out (fun h=>by have:=hqq.2 h.1; cases this)
     have hbw : Hid (Below w.heap.size w wc):=Lib.hid (bl_t (bl_t HB1.out HB3.out) hb4)
     go_wp2
     go_ret
     exact ⟨hno.out,hbw.out⟩
    | false=>
     have hq:=hqq.1 rfl
     have hmo4:=HMO3.out.keep (Keep.of_below hb4 (fun _=>False)) (fun h=>h)
     have hL4:=MapI.look hmo4 Tryz.underlying3 Tryz.underlying92 (show (zeroValue 97).run Tryz.prog wc = .ok (.slice none 0 0) wc by simp [go_sem]) false k hwf
     simp only [hv,Bool.false_eq_true,if_false] at hL4
     have HMO4:=Lib.hid hmo4
     have HRO4:=Lib.hid (HRO3.out.below hb4)
     have HROW4:=Lib.hid (row_below HROW.out hb4)
     have HB4:=Lib.hid hb4
     have HQ:=Lib.hid hq
     have hlz : (H k).length ≤ 9223372036854775807:=own_len HROW4.out
     clear hmo4 hL HMO3 HRO3 HROW hq hqq hb4 e3
     generalize hlen : (H k).length = len at *
     go_wp2
     go_loopw [7,8,9,40] (fun _ _ _ i w5=>∃ j : Nat,i = .int .i64 j ∧ j ≤ len ∧ Below wc.heap.size wc w5 ∧ Hid (∀ s ∈ (H k).take j,fitsP H s)) (fun _ _ _ i _=>len - (intOf i).toNat)
     case atStart=>exact ⟨0,rfl,Nat.zero_le _,Below.refl _ _,Lib.hid (fun s h=>by simp at h)⟩
     case round=>
      obtain ⟨j,rfl,hj,hb5,HD⟩:=hrel
      by_cases hjl : j < len
      ·have hjl' : (j : Int) < (len : Int):=by omega
       have hrow5:=row_below HROW4.out hb5
       obtain ⟨g2,hjH,rfl,d0,d1⟩:=row_at hrow5 hjl hlen.symm
       have hs0 : (H k)[j] ∈ H k:=List.getElem_mem hjH
       have htk : ∀ s ∈ (H k).take (j + 1),s ∈ (H k).take j ∨ s = (H k)[j]:=fun s hs=>by
        have e1 : (H k).take (j + 1) = (H k).take j ++ [(H k)[j]]:=by rw [List.take_add_one,List.getElem?_eq_getElem hjH]; rfl
        rw [e1,List.mem_append,List.mem_singleton] at hs
        exact hs
       have HTK:=Lib.hid htk
       generalize (H k)[j] = s0 at *
       have hz0 : s0.1.2.size ≤ 255:=HZ.out s0 k ((HSP.out k).2.1 s0 |>.1 hs0)
       have hb6 : Below wc.heap.size wc (wr.alloc (.cells #[.int .i64 s0.1.1,.string s0.1.2] 96)):=hb5.alloc hb5.size _
       have hP:=Lib.hid (st_path s0 (HMO4.out.keep (Keep.of_below hb6 (fun _=>False)) (fun h=>h)) (HRO4.out.below hb6) (fun ino s hs=>HZ.out s ino ((HSP.out ino).2.1 s |>.1 hs)) hz0)
       have HB6:=Lib.hid hb6
       have HB5:=Lib.hid hb5
       clear hb6 hrow5 htk hb5
       go_wp2_with (go_at_call 38; refine hP.out.mono ?_; rintro e w7 ⟨hpe,hb7⟩; have HB7:=Lib.hid (bl_t HB6.out hb7); clear hb7; (rcases hpe with ⟨p7,hp7,rfl⟩ | ⟨hp7,rfl⟩))
       ·have hbig : (1023 : Int) < p7.size:=by assumption
        have hno:=HNO.out (fun h=>by
         obtain ⟨p,hp,hp2⟩:=h.2 s0 hs0
         rw [hp7] at hp
         cases hp
         omega)
        go_ret
        exact ⟨hno.out,bl_t (bl_t (bl_t HB1.out HB3.out) HB4.out) HB7.out⟩
       ·have hsm : (p7.size : Int) ≤ 1023:=by assumption
        exact ⟨⟨j + 1,by rw [Int.natCast_succ],by omega,HB7.out,Lib.hid (fun s hs=>by
         rcases HTK.out s hs with h | rfl
         ·exact HD.out s h
         ·exact ⟨p7,hp7,by omega⟩)⟩,by
         have q1 : (intOf (.int .i64 ((j : Int) + 1))).toNat = j + 1:=by simp only [intOf]; omega
         have q2 : (intOf (.int .i64 (j : Int))).toNat = j:=by simp only [intOf]; omega
         rw [q1,q2]; omega⟩
       ·have hno:=HNO.out (fun h=>by
         obtain ⟨p,hp,hp2⟩:=h.2 s0 hs0
         rw [hp7] at hp
         cases hp)
        go_ret
        exact ⟨hno.out,bl_t (bl_t (bl_t HB1.out HB3.out) HB4.out) HB7.out⟩
      ·have hall : nodeLinked H k a:=⟨by rw [hlen]; exact HQ.out,fun s hs=>HD.out s (by rw [List.take_of_length_le (by omega)]; exact hs)⟩
       have hgo2:=HGO.out hall
       go_wp2
       go_roundw
       case rel=>exact ⟨_,_,HRG3.out.below (bl_t HB4.out hb5),bl_t HB3.out (bl_t HB4.out hb5),hgo2⟩
       case measure=>exact HMEAS.out _ (bl_t HB4.out hb5)
end Go.Proofs.YtpboohfofodeeaaGreatDoor
/- Files under way: the whole state as it stands in memory while items are taken; what an item does (conditions: none). -/
namespace Go.Proofs.YtpboohfofodeeaaGreatDoor
open Go.RowKit Go.Maps
/-- Files: the next number, the nodes, the names. -/
structure FS where
 next : Int
 N : Int → Option NodeA
 G : SlotK → Option Int
/-- A key, taken apart. -/
inductive KK where
 | nxt
 | nd (ino : Int)
 | nm (s : SlotK)
 | pc (ino ix : Int)
 | xa (ino : Int) (name : ByteArray)
theorem slot_ok {kind ino : Int} {name : ByteArray} {ix : Int} (h : keyRight kind ino name ix) : okSl (ino,name):=by
 have h1 : 0 ≤ ino ∧ ino ≤ 1099511627776 ∧ name.size ≤ 255:=by unfold keyRight at h; omega
 exact ⟨WalkArith.wf_i64 (by simp only; omega),by simp only; unfold maxLen; omega⟩
open Classical in
noncomputable def parseK (s : ByteArray) : Option KK:=
 if h : isKey s then
  some (if (rawKey s).1 = 110 then .nxt else if (rawKey s).1 = 105 then .nd (rawKey s).2.1 else if (rawKey s).1 = 100 then .nm ⟨((rawKey s).2.1,(rawKey s).2.2.1),slot_ok h.2.1⟩ else if (rawKey s).1 = 120 then .xa (rawKey s).2.1 (rawKey s).2.2.1 else .pc (rawKey s).2.1 (rawKey s).2.2.2.1)
 else none
open Classical in
/-- What is known behind an item: none, where it can't be taken. -/
noncomputable def itS (fs : FS) (k v : ByteArray) : Option FS:=
 match parseK k with
 | none=>none
 | some .nxt=>if isNum v then some { fs with next:=(rawNum v).1 } else none
 | some (.nd ino)=>if isNode v then some { fs with N:=upd fs.N ino ⟨(decRaw v).1,[],fun _=>none⟩ } else none
 | some (.nm s)=>if (rawNum v).2 = 0 then some { fs with G:=updK fs.G s (rawNum v).1 } else none
 | some (.pc ino ix)=>match fs.N ino with
  | none=>none
  | some a=>some { fs with N:=upd fs.N ino { a with ps:=a.ps ++ [(ix,v)] } }
 | some (.xa ino name)=>match fs.N ino with
  | none=>none
  | some a=>if nameB name = true ∧ v.size ≤ 120 then some { fs with N:=upd fs.N ino { a with at_:=updK a.at_ name v } } else none
/-- A piece's two cells. -/
def pcC (p : Int × ByteArray) : List Value:=[.int .i64 p.1,.string p.2]
def pcCs (l : List (Int × ByteArray)) : List Value:=l.flatMap pcC
theorem pcCs_snoc (l : List (Int × ByteArray)) (p : Int × ByteArray) : pcCs (l ++ [p]) = pcCs l ++ pcC p:=by simp [pcCs]
/-- A node's own: its block, its attributes' map, its pieces. -/
structure Own where
 g : Nat
 ab : Nat
 v : Value
def ptrG (g : Nat) : Value:=.pointer (some ⟨g,0,none⟩)
def atV (f : ByteArray → Option ByteArray) : ByteArray → Option Value:=fun s=>(f s).map Value.string
structure NodeT (base c : Nat) (w : World) (o : Own) (a : NodeA) : Prop where
 blk : Blk w o.g 135 (nodeC a.nd o.v o.ab)
 row : w.ownsRow base 111 2 o.v a.ps.length (pcCs a.ps)
 few : a.ps.length ≤ c
 att : ∃ an,an ≤ c ∧ MapK litS Tryz.prog 9 w o.ab (atV a.at_) an
 lo : base ≤ o.g ∧ base ≤ o.ab
/-- Files in memory, at f, while items are taken: b and m the maps; c bounds how many there are of anything. -/
structure FlsT (base c : Nat) (w : World) (f b m : Nat) (own : Int → Own) (fs : FS) : Prop where
 blk : Blk w f 91 #[.int .i64 fs.next,.map (some b),.map (some m)]
 nodes : ∃ n,n ≤ c ∧ MapI Tryz.prog 3 w b (fun k=>(fs.N k).map fun _=>ptrG (own k).g) n
 names : ∃ n,n ≤ c ∧ MapK (fun k : SlotK=>litSl k.1) Tryz.prog 96 w m (nmV fs.G) n
 node : ∀ k a,fs.N k = some a → NodeT base c w (own k) a
 apart : ∀ j k x y,j ≠ k → fs.N j = some x → fs.N k = some y → (own j).g ≠ (own k).g ∧ (own j).ab ≠ (own k).ab ∧ ∀ i,(own j).v.ownBlock = some i → (own k).v.ownBlock ≠ some i
 ne : b ≠ m ∧ ∀ k a,fs.N k = some a → (own k).ab ≠ b ∧ (own k).ab ≠ m
 lo : base ≤ f ∧ base ≤ b ∧ base ≤ m
 wf : ∀ s i,fs.G s = some i → (Lit.int .i64 i).wf = true
theorem NodeT.keep {S : Nat → Prop} {base c : Nat} {w w' : World} {o : Own} {a : NodeA} (h : NodeT base c w o a) (hk : Keep S w w') (h1 : ¬ S o.g) (h2 : ¬ S o.ab) (h3 : ∀ i,o.v.ownBlock = some i → ¬ S i) : NodeT base c w' o a:=
 ⟨h.blk.keep hk h1,own_keep h.row hk h3,h.few,let ⟨an,x,y⟩:=h.att; ⟨an,x,y.keep hk h2⟩,h.lo⟩
theorem NodeT.more {base c d : Nat} {w : World} {o : Own} {a : NodeA} (h : NodeT base c w o a) (hd : c ≤ d) : NodeT base d w o a:=⟨h.blk,h.row,Nat.le_trans h.few hd,let ⟨an,x,y⟩:=h.att; ⟨an,Nat.le_trans x hd,y⟩,h.lo⟩
theorem FlsT.more {base c d : Nat} {w : World} {f b m : Nat} {own : Int → Own} {fs : FS} (h : FlsT base c w f b m own fs) (hd : c ≤ d) : FlsT base d w f b m own fs:=
 ⟨h.blk,let ⟨n,x,y⟩:=h.nodes; ⟨n,Nat.le_trans x hd,y⟩,let ⟨n,x,y⟩:=h.names; ⟨n,Nat.le_trans x hd,y⟩,fun k a e=>(h.node k a e).more hd,h.apart,h.ne,h.lo,h.wf⟩
theorem FlsT.below {base c : Nat} {w w' : World} {f b m : Nat} {own : Int → Own} {fs : FS} (h : FlsT base c w f b m own fs) (hb : Below w.heap.size w w') : FlsT base c w' f b m own fs:=by
 have hk:=Keep.of_below hb (fun _=>False)
 exact ⟨blk_below h.blk hb,let ⟨n,x,y⟩:=h.nodes; ⟨n,x,y.keep hk (fun h=>h)⟩,let ⟨n,x,y⟩:=h.names; ⟨n,x,y.keep hk (fun h=>h)⟩,fun k a e=>(h.node k a e).keep hk (fun h=>h) (fun h=>h) (fun _ _ h=>h),h.apart,h.ne,h.lo,h.wf⟩
/-- What the rows are not: blocks of other types, maps. -/
theorem NodeT.row_ne {base c : Nat} {w : World} {o : Own} {a : NodeA} (h : NodeT base c w o a) {g : Nat} {t : TypeId} {cs : Array Value} (hg : Blk w g t cs) (hne : 111 ≠ t) : ∀ i,o.v.ownBlock = some i → i ≠ g:=by
 rintro i hi rfl
 exact own_blk_ne h.row hg hne hi
theorem NodeT.row_map {base c : Nat} {w : World} {o : Own} {a : NodeA} (h : NodeT base c w o a) {es : Array MapEntry} {cl g : Nat} (hg : w.heap[g]? = some (.map es cl)) : ∀ i,o.v.ownBlock = some i → i ≠ g:=by
 rintro i hi rfl
 rcases h.row.2 with ⟨e,_⟩ | ⟨g',cap,cur,e,_,hh,_⟩
 ·rw [e] at hi; simp [Value.ownBlock] at hi
 ·rw [e] at hi
  have : g' = i:=by simpa [Value.ownBlock] using hi
  subst this
  rw [hg] at hh
  cases hh
theorem MapI.obj {P : Program} {kt : TypeId} {w : World} {b n : Nat} {f : Int → Option Value} (h : MapI P kt w b f n) : ∃ es cl,w.heap[b]? = some (.map es cl):=let ⟨_,⟨es,cl,h,_⟩,_⟩:=h; ⟨es,cl,h⟩
theorem MapK.obj {κ : Type} {lit : κ → Lit} {P : Program} {kt : TypeId} {w : World} {b n : Nat} {f : κ → Option Value} (h : MapK lit P kt w b f n) : ∃ es cl,w.heap[b]? = some (.map es cl):=let ⟨_,⟨es,cl,h,_⟩,_⟩:=h; ⟨es,cl,h⟩
theorem blk_ne_map {w : World} {g b : Nat} {t : TypeId} {cs : Array Value} (h : Blk w g t cs) {es : Array MapEntry} {cl : Nat} (hb : w.heap[b]? = some (.map es cl)) : g ≠ b:=by
 rintro rfl
 unfold Blk at h
 rw [h] at hb
 cases hb
end Go.Proofs.YtpboohfofodeeaaGreatDoor
/- state: take, the ways of a text that is no key, of the next number, of a name (conditions: none). -/
namespace Go.Proofs.YtpboohfofodeeaaGreatDoor
open Go.RowKit Go.Maps
def TakeEnds (base c : Nat) (w : World) (f b m : Nat) (fs : FS) (k v : ByteArray) (e : Ending) (w' : World) : Prop:=
 Below base w w' ∧ ((∃ fs' own',itS fs k v = some fs' ∧ e = .returned (.bool true) ∧ FlsT base (c + 1) w' f b m own' fs') ∨ (itS fs k v = none ∧ e = .returned (.bool false)))
theorem pkey_is {s : ByteArray} (h : isKey s) (W : World) (hs : s.size ≤ 140737488351232) : Calls Tryz.prog 93 #[.string s] W fun e w'=>e = .returned (.tuple #[.agg #[.int .u8 (rawKey s).1,.int .i64 (rawKey s).2.1,.string (rawKey s).2.2.1,.int .i64 (rawKey s).2.2.2.1],.int .i64 0]) ∧ Below W.heap.size W w':=
 (ky_parse s W hs).mono fun _e _w' ⟨hp,hb⟩=>⟨hp.elim (fun h=>h.2) (fun h2=>absurd h h2.1),hb⟩
theorem pkey_no {s : ByteArray} (h : ¬ isKey s) (W : World) (hs : s.size ≤ 140737488351232) : Calls Tryz.prog 93 #[.string s] W fun e w'=>e = .returned (.tuple #[.agg #[.int .u8 0,.int .i64 0,.string ⟨#[]⟩,.int .i64 0],.int .i64 81]) ∧ Below W.heap.size W w':=
 (ky_parse s W hs).mono fun _e _w' ⟨hp,hb⟩=>⟨hp.elim (fun h2=>absurd h2.1 h) (fun h=>h.2),hb⟩
theorem parseK_none {s : ByteArray} (h : ¬ isKey s) : parseK s = none:=by unfold parseK; rw [dif_neg h]
set_option maxRecDepth 100000 in
set_option maxHeartbeats 1000000 in
theorem take_no {base c : Nat} {w : World} {f b m : Nat} {fs : FS} (k v : ByteArray) (hk : k.size ≤ 140737488351232) (hlow : base ≤ w.heap.size) (hno : ¬ isKey k) :
 Calls Tryz.prog 45 #[Pa f,.agg #[.string k,.string v]] w (TakeEnds base c w f b m fs k v):=by
 have hP:=Lib.hid (fun W=>pkey_no hno W hk)
 have hend : Hid (∀ w',Below w.heap.size w w' → TakeEnds base c w f b m fs k v (.returned (.bool false)) w'):=Lib.hid fun w' hb=>⟨hb.mono hlow,.inr ⟨by unfold itS; rw [parseK_none hno],rfl⟩⟩
 have hb0 : Below w.heap.size w (w.alloc (.cells #[.string k,.string v] 59)):=(Below.refl _ _).alloc (Nat.le_refl _) _
 have HB0:=Lib.hid hb0
 clear hb0
 go_enter Tryz.func45,Tryz.ntmps45
 go_wp2_with (go_at_call 93; refine (hP.out _).mono ?_; rintro e w1 ⟨rfl,hb⟩; have HB:=Lib.hid (bl_t HB0.out hb); clear hb)
 go_ret
 exact hend.out _ (HB.out.alloc HB.out.size _)
/-- The key's parts in the world behind Parse. -/
theorem key_cells {w : World} {kind ino ix : Int} {name : ByteArray} : (w.alloc (.cells #[.int .u8 kind,.int .i64 ino,.string name,.int .i64 ix] 99)).cell? ⟨w.heap.size,0,none⟩ = some (.int .u8 kind) ∧ (w.alloc (.cells #[.int .u8 kind,.int .i64 ino,.string name,.int .i64 ix] 99)).cell? ⟨w.heap.size,1,none⟩ = some (.int .i64 ino) ∧
 (w.alloc (.cells #[.int .u8 kind,.int .i64 ino,.string name,.int .i64 ix] 99)).cell? ⟨w.heap.size,2,none⟩ = some (.string name) ∧ (w.alloc (.cells #[.int .u8 kind,.int .i64 ino,.string name,.int .i64 ix] 99)).cell? ⟨w.heap.size,3,none⟩ = some (.int .i64 ix):=by
 have h:=Blk.new w 99 #[.int .u8 kind,.int .i64 ino,.string name,.int .i64 ix]
 exact ⟨h.cell 0,h.cell 1,h.cell 2,h.cell 3⟩
theorem below_set {B : Nat} {w W : World} (h : Below B w W) {p : Addr} (hp : B ≤ p.block) (v : Value) : Below B w (W.setCell p v):=
 ⟨h.os,h.tape,h.output,by simpa [World.setCell] using h.size,fun k hk=>(Below.heap_setCell W p v k (by omega)).trans (h.block k hk)⟩
theorem FlsT.next_ {base c : Nat} {w : World} {f b m : Nat} {own : Int → Own} {fs : FS} (h : FlsT base c w f b m own fs) (n : Int) : FlsT base c (w.setCell ⟨f,0,none⟩ (.int .i64 n)) f b m own { fs with next:=n }:=by
 have hk : Keep (fun i=>i = f) w (w.setCell ⟨f,0,none⟩ (.int .i64 n)):=(Keep.refl (fun i=>i = f) w).setCell (p:=⟨f,0,none⟩) (.inl rfl) _
 obtain ⟨n1,x1,y1⟩:=h.nodes
 obtain ⟨n2,x2,y2⟩:=h.names
 refine ⟨h.blk.set_ 0 _,⟨n1,x1,y1.keep hk (fun e=>y1.blk_ne h.blk e)⟩,⟨n2,x2,y2.keep hk (fun e=>y2.blk_ne h.blk e)⟩,fun k a e=>?_,h.apart,h.ne,h.lo,h.wf⟩
 have hn:=h.node k a e
 obtain ⟨an,x,y⟩:=hn.att
 exact hn.keep hk (hn.blk.ne_ h.blk (by decide)) (fun e=>y.blk_ne h.blk e) (fun i hi=>hn.row_ne h.blk (by decide) i hi)
theorem look_nodes {base c : Nat} {w : World} {f b m : Nat} {own : Int → Own} {fs : FS} (h : FlsT base c w f b m own fs) (ino : Int) (hw : (Lit.int .i64 ino).wf = true) (n : Nat) :
 (Instr.lookup 88 (.map (some b)) (.int .i64 ino) false).run Tryz.prog (w.drewN n) = .ok (((fs.N ino).map fun _=>ptrG (own ino).g).getD (.pointer none)) (w.drewN n):=by
 obtain ⟨_,_,hm⟩:=h.nodes
 exact nodes_look (w:=w.drewN n) (hm.drewN n) ino hw
theorem key_wf {s : ByteArray} (h : isKey s) : (Lit.int .i64 (rawKey s).2.1).wf = true:=(slot_ok h.2.1).1
set_option maxRecDepth 100000 in
set_option maxHeartbeats 1000000 in
theorem take_nxt {base c : Nat} {w : World} {f b m : Nat} {own : Int → Own} {fs : FS} (h : FlsT base c w f b m own fs) (k v : ByteArray) (hk : k.size ≤ 140737488351232) (hv : v.size ≤ 140737488351232) (hlow : base ≤ w.heap.size) (hK : isKey k) (h110 : (rawKey k).1 = 110) :
 Calls Tryz.prog 45 #[Pa f,.agg #[.string k,.string v]] w (TakeEnds base c w f b m fs k v):=by
 have hq : itS fs k v = open Classical in (if isNum v then some { fs with next:=(rawNum v).1 } else none):=by
  unfold itS parseK
  rw [dif_pos hK,if_pos h110]
 have hP:=Lib.hid (fun W=>pkey_is hK W hk)
 rw [h110] at hP
 have hwf:=key_wf hK
 have hN:=Lib.hid (fun W=>in_numberOf v W hv)
 generalize (rawKey k).2.1 = ino at *
 generalize (rawKey k).2.2.1 = name at *
 generalize (rawKey k).2.2.2.1 = ix at *
 have H:=Lib.hid h
 have HQ:=Lib.hid hq
 have hX:=Blk.new w 59 #[.string k,.string v]
 have hb0 : Below w.heap.size w (w.alloc (.cells #[.string k,.string v] 59)):=(Below.refl _ _).alloc (Nat.le_refl _) _
 have HB0:=Lib.hid hb0
 have HX:=Lib.hid hX
 clear hb0 h hq hX
 go_enter Tryz.func45,Tryz.ntmps45
 go_wp2_with (go_at_call 93; refine (hP.out _).mono ?_; rintro e w1 ⟨rfl,hb⟩; have HB:=Lib.hid (bl_t HB0.out hb); have HX1:=Lib.hid (blk_below HX.out hb); clear hb)
 have hF:=H.out.below (HB.out.alloc HB.out.size (.cells #[.int .u8 110,.int .i64 ino,.string name,.int .i64 ix] 99))
 have hL:=look_nodes hF ino hwf
 obtain ⟨k0,k1,k2,k3⟩:=@key_cells w1 110 ino ix name
 have d1 : (w1.alloc (.cells #[.int .u8 110,.int .i64 ino,.string name,.int .i64 ix] 99)).cell? ⟨f,1,none⟩ = some (.map (some b)):=hF.blk.cell 1
 have hx2:=HX1.out.alloc (.cells #[.int .u8 110,.int .i64 ino,.string name,.int .i64 ix] 99)
 have x1 : (w1.alloc (.cells #[.int .u8 110,.int .i64 ino,.string name,.int .i64 ix] 99)).cell? ⟨w.heap.size,1,none⟩ = some (.string v):=hx2.cell 1
 have HF:=Lib.hid hF
 have HB2:=Lib.hid (HB.out.alloc HB.out.size (.cells #[.int .u8 110,.int .i64 ino,.string name,.int .i64 ix] 99))
 clear hF hx2
 generalize w1.alloc (.cells #[.int .u8 110,.int .i64 ino,.string name,.int .i64 ix] 99) = w2 at *
 generalize w1.heap.size = kb at *
 go_quiet (fail)
 have HB3:=Lib.hid (below_drewN HB2.out nq)
 have HF3:=Lib.hid (HF.out.below (below_drewN (Below.refl _ _) nq))
 have hx3 : (w2.drewN nq).cell? ⟨w.heap.size,1,none⟩ = some (.string v):=x1
 have hk3 : (w2.drewN nq).cell? ⟨kb,0,none⟩ = some (.int .u8 110):=k0
 clear hL k0 k1 k2 k3 x1 d1 HB2 HF
 generalize w2.drewN nq = w3 at *
 have hN3:=Lib.hid ((hN.out w3).mono fun (e : Ending) w' ⟨he,hb⟩=>show (∃ (n er : Int),e = Ending.returned (.tuple #[.int .i64 n,.int .i64 er]) ∧ ((er = 0 ∧ isNum v ∧ n = (rawNum v).1) ∨ (er = 21 ∧ ¬ isNum v))) ∧ Below w3.heap.size w3 w' from ⟨he.elim (fun h=>⟨_,_,h.2,.inl ⟨rfl,h.1,rfl⟩⟩) (fun h=>⟨_,_,h.2,.inr ⟨rfl,h.1⟩⟩),hb⟩)
 go_wp2_with (
  go_at_call 94
  refine hN3.out.mono ?_
  rintro e w4 ⟨⟨n,er,rfl,hcase⟩,hb4⟩
  have HF4:=Lib.hid (HF3.out.below hb4)
  have HB4:=Lib.hid (HB3.out.trans (hb4.mono HB3.out.size))
  have g0 : w4.cell? ⟨f,0,none⟩ = some (.int .i64 fs.next):=HF4.out.blk.cell 0
  have fr0:=HF4.out.blk.frozen 0
  have HC:=Lib.hid hcase
  clear hb4 hcase)
 go_ret
 refine ⟨below_set (HB4.out.mono hlow) HF4.out.lo.1 _,?_⟩
 rcases HC.out with ⟨rfl,h1,rfl⟩ | ⟨rfl,h1⟩
 ·exact .inl ⟨_,own,by rw [HQ.out,if_pos h1],rfl,(HF4.out.next_ _).more (Nat.le_succ c)⟩
 ·exact .inr ⟨by rw [HQ.out,if_neg h1],rfl⟩
end Go.Proofs.YtpboohfofodeeaaGreatDoor
/- state: take, the way of a name (conditions: none). -/
namespace Go.Proofs.YtpboohfofodeeaaGreatDoor
open Go.RowKit Go.Maps
theorem key_parts {s : ByteArray} (h : isKey s) : 0 ≤ (rawKey s).2.1 ∧ (rawKey s).2.1 ≤ 1099511627776 ∧ (rawKey s).2.2.1.size ≤ 255:=by
 have h:=h.2.1
 unfold keyRight at h
 omega
theorem FlsT.keepr {base c r : Nat} {w w' : World} {f b m : Nat} {own : Int → Own} {fs : FS} (h : FlsT base c w f b m own fs) (hk : Keep (fun i=>i = r) w w') (hf : f ≠ r) (hmap : ∀ i es cl,w.heap[i]? = some (.map es cl) → i ≠ r) (hnode : ∀ i cs,Blk w i 135 cs → i ≠ r) (hrow : ∀ i cs,Blk w i 111 cs → i ≠ r) : FlsT base c w' f b m own fs:=by
 obtain ⟨n1,x1,y1⟩:=h.nodes
 obtain ⟨n2,x2,y2⟩:=h.names
 obtain ⟨es1,cl1,ho1⟩:=y1.obj
 obtain ⟨es2,cl2,ho2⟩:=y2.obj
 refine ⟨h.blk.keep hk hf,⟨n1,x1,y1.keep hk (hmap _ _ _ ho1)⟩,⟨n2,x2,y2.keep hk (hmap _ _ _ ho2)⟩,fun k a e=>?_,h.apart,h.ne,h.lo,h.wf⟩
 have hn:=h.node k a e
 obtain ⟨an,x,y⟩:=hn.att
 obtain ⟨es,cl,ho⟩:=y.obj
 refine hn.keep hk (hnode _ _ hn.blk) (hmap _ _ _ ho) (fun i hi=>?_)
 rcases hn.row.2 with ⟨e,_⟩ | ⟨g',cap,cur,e,_,hh,_⟩
 ·rw [e] at hi; simp [Value.ownBlock] at hi
 ·rw [e] at hi
  have : g' = i:=by simpa [Value.ownBlock] using hi
  subst this
  exact hrow _ _ hh
theorem FlsT.name_ {base c : Nat} {w w' : World} {f b m n : Nat} {own : Int → Own} {fs : FS} (h : FlsT base c w f b m own fs) (s : SlotK) (i : Int) (hi : (Lit.int .i64 i).wf = true) (hk : Keep (fun i=>i = m) w w') (hn : n ≤ c + 1) (hm : MapK (fun k : SlotK=>litSl k.1) Tryz.prog 96 w' m (nmV (updK fs.G s i)) n) : FlsT base (c + 1) w' f b m own { fs with G:=updK fs.G s i }:=by
 obtain ⟨n1,x1,y1⟩:=h.nodes
 obtain ⟨n2,x2,y2⟩:=h.names
 obtain ⟨es,cl,ho⟩:=y2.obj
 refine ⟨h.blk.keep hk (blk_ne_map h.blk ho),⟨n1,by omega,y1.keep hk h.ne.1⟩,⟨n,hn,hm⟩,fun k a e=>?_,h.apart,h.ne,h.lo,fun s' j hj=>?_⟩
 ·have hnode:=h.node k a e
  exact (hnode.keep hk (blk_ne_map hnode.blk ho) (h.ne.2 k a e).2 (fun i hi=>hnode.row_map ho i hi)).more (Nat.le_succ c)
 ·have hj : updK fs.G s i s' = some j:=hj
  unfold updK at hj
  by_cases e : s' = s
  ·rw [if_pos e] at hj; cases hj; exact hi
  ·rw [if_neg e] at hj; exact h.wf s' j hj
theorem nmV_upd (G : SlotK → Option Int) (s : SlotK) (i : Int) : updK (nmV G) s (.int .i64 i) = nmV (updK G s i):=by
 funext x
 unfold updK nmV
 by_cases e : x = s
 ·simp [e]
 ·simp [e]
theorem wrap_wf (x : Int) : (Lit.int .i64 (IntKind.i64.wrap x)).wf = true:=by
 refine WalkArith.wf_i64 ?_
 have:=IntKind.wrap_i64 x
 omega
set_option maxRecDepth 100000 in
set_option maxHeartbeats 2000000 in
theorem take_nm {base c : Nat} {w : World} {f b m : Nat} {own : Int → Own} {fs : FS} (h : FlsT base c w f b m own fs) (k v : ByteArray) (hk : k.size ≤ 140737488351232) (hv : v.size ≤ 140737488351232) (hlow : base ≤ w.heap.size) (hK : isKey k) (hkind : (rawKey k).1 = 100) (hc : c < 1099511627776) :
 Calls Tryz.prog 45 #[Pa f,.agg #[.string k,.string v]] w (TakeEnds base c w f b m fs k v):=by
 obtain ⟨sl,hsl,hq⟩ : ∃ sl : SlotK,sl.1 = ((rawKey k).2.1,(rawKey k).2.2.1) ∧ itS fs k v = if (rawNum v).2 = 0 then some { fs with G:=updK fs.G sl (rawNum v).1 } else none:=by
  refine ⟨⟨((rawKey k).2.1,(rawKey k).2.2.1),slot_ok hK.2.1⟩,rfl,?_⟩
  unfold itS parseK
  rw [dif_pos hK,if_neg (by omega),if_neg (by omega),if_pos hkind]
 have hP:=Lib.hid (fun W=>pkey_is hK W hk)
 rw [hkind] at hP
 have hwf:=key_wf hK
 have hinf:=Lib.hid (key_parts hK)
 generalize (rawKey k).2.1 = ino at *
 generalize (rawKey k).2.2.1 = name at *
 generalize (rawKey k).2.2.2.1 = ix at *
 have H:=Lib.hid h
 have HQ:=Lib.hid hq
 have hX:=Blk.new w 59 #[.string k,.string v]
 have hb0 : Below w.heap.size w (w.alloc (.cells #[.string k,.string v] 59)):=(Below.refl _ _).alloc (Nat.le_refl _) _
 have HB0:=Lib.hid hb0
 have HX:=Lib.hid hX
 clear hb0 h hq hX
 go_enter Tryz.func45,Tryz.ntmps45
 go_wp2_with (go_at_call 93; refine (hP.out _).mono ?_; rintro e w1 ⟨rfl,hb⟩; have HB:=Lib.hid (bl_t HB0.out hb); have HX1:=Lib.hid (blk_below HX.out hb); clear hb)
 have hF:=H.out.below (HB.out.alloc HB.out.size (.cells #[.int .u8 100,.int .i64 ino,.string name,.int .i64 ix] 99))
 have hL:=look_nodes hF ino hwf
 have hKB:=Blk.new w1 99 #[.int .u8 100,.int .i64 ino,.string name,.int .i64 ix]
 obtain ⟨k0,k1,k2,k3⟩:=@key_cells w1 100 ino ix name
 have d1 : (w1.alloc (.cells #[.int .u8 100,.int .i64 ino,.string name,.int .i64 ix] 99)).cell? ⟨f,1,none⟩ = some (.map (some b)):=hF.blk.cell 1
 have hx2:=HX1.out.alloc (.cells #[.int .u8 100,.int .i64 ino,.string name,.int .i64 ix] 99)
 have HF:=Lib.hid hF
 have HB2:=Lib.hid (HB.out.alloc HB.out.size (.cells #[.int .u8 100,.int .i64 ino,.string name,.int .i64 ix] 99))
 have HKB:=Lib.hid hKB
 have HX2:=Lib.hid hx2
 clear hF hx2 hKB
 generalize w1.alloc (.cells #[.int .u8 100,.int .i64 ino,.string name,.int .i64 ix] 99) = w2 at *
 generalize w1.heap.size = kb at *
 go_quiet (fail)
 have HB3:=Lib.hid (below_drewN HB2.out nq)
 have HF3:=Lib.hid (HF.out.below (below_drewN (Below.refl _ _) nq))
 have HKB3:=Lib.hid (HKB.out.drewN nq)
 have HX3:=Lib.hid (HX2.out.drewN nq)
 have x1 : (w2.drewN nq).cell? ⟨w.heap.size,1,none⟩ = some (.string v):=HX3.out.cell 1
 have q0 : (w2.drewN nq).cell? ⟨kb,0,none⟩ = some (.int .u8 100):=k0
 have q1 : (w2.drewN nq).cell? ⟨kb,1,none⟩ = some (.int .i64 ino):=k1
 have q2 : (w2.drewN nq).cell? ⟨kb,2,none⟩ = some (.string name):=k2
 have q3 : (w2.drewN nq).cell? ⟨kb,3,none⟩ = some (.int .i64 ix):=k3
 clear hL k0 k1 k2 k3 d1 HB2 HF HKB HX2
 generalize w2.drewN nq = w3 at *
 have hR:=Lib.hid (pk_read_any' v)
 have d2 : w3.cell? ⟨f,2,none⟩ = some (.map (some m)):=HF3.out.blk.cell 2
 go_wp2_with (
  go_at_call 96
  refine (hR.out w3).mono ?_
  rintro e w4 ⟨r,rfl,hr1,hr2,hb4⟩
  have HF4:=Lib.hid (HF3.out.below hb4)
  have HB4:=Lib.hid (HB3.out.trans (hb4.mono HB3.out.size))
  have HR4:=Lib.hid hr2
  have HK4:=Lib.hid (blk_below HKB3.out hb4)
  have hrl : kb < r:=Nat.lt_of_lt_of_le HKB3.out.lt hr1
  have hrf : f < r:=Nat.lt_of_lt_of_le HF3.out.blk.lt hr1
  have e1 : w4.cell? ⟨kb,1,none⟩ = some (.int .i64 ino):=HK4.out.cell 1
  have e2 : w4.cell? ⟨kb,2,none⟩ = some (.string name):=HK4.out.cell 2
  have e3 : w4.cell? ⟨f,2,none⟩ = some (.map (some m)):=HF4.out.blk.cell 2
  clear hb4 hr2)
 have hen : encSl sl.1 = .agg #[.int .i64 ino,.string name]:=by rw [hsl]; rfl
 go_region_held3 (fun w'=>w'.cell? ⟨kb,1,none⟩ = some (.int .i64 ino) ∧ w'.cell? ⟨kb,2,none⟩ = some (.string name) ∧ w'.cell? ⟨f,2,none⟩ = some (.map (some m))) (go_keep)
  (first
   |(go_at_call 97
     refine (rd_fixed (w:=w4.drew) HR4.out (Nat.zero_le _) hv).mono ?_
     rintro e w5 ⟨rfl,hr5,hk5⟩
     have hkk : Keep (fun i=>i = r) w4 w5:=(Keep.refl _ w4).drew.trans hk5 (fun i _ h=>h)
     have HR5:=Lib.hid hr5
     have HK5:=Lib.hid hkk
     have hf5:=HF4.out.keepr hkk (by omega) (fun i es cl h e=>blk_ne_map HR4.out h e.symm) (fun i cs h=>Blk.ne_ h HR4.out (by decide)) (fun i cs h=>Blk.ne_ h HR4.out (by decide))
     have g1 : w5.cell? ⟨kb,1,none⟩ = some (.int .i64 ino):=(HK4.out.keep hkk (by omega)).cell 1
     have g2 : w5.cell? ⟨kb,2,none⟩ = some (.string name):=(HK4.out.keep hkk (by omega)).cell 2
     have g3 : w5.cell? ⟨f,2,none⟩ = some (.map (some m)):=hf5.blk.cell 2
     have HF5:=Lib.hid hf5
     obtain ⟨n2,x2,y2⟩:=hf5.names
     obtain ⟨w6,hrun,hm6,hk6,hs6⟩:=y2.store slot_enc Tryz.underlying89 (by unfold maxLen; omega) sl trivial (.int .i64 (IntKind.i64.wrap (fixedS v 0 0).1))
     rw [hen] at hrun
     obtain ⟨es2,cl2,ho2⟩:=y2.obj
     have hkb5:=HK4.out.keep hkk (by omega)
     have hkb6:=hkb5.keep hk6 (blk_ne_map hkb5 ho2)
     have hfb6:=hf5.blk.keep hk6 (blk_ne_map hf5.blk ho2)
     have i1 : w6.cell? ⟨kb,1,none⟩ = some (.int .i64 ino):=hkb6.cell 1
     have i2 : w6.cell? ⟨kb,2,none⟩ = some (.string name):=hkb6.cell 2
     have i3 : w6.cell? ⟨f,2,none⟩ = some (.map (some m)):=hfb6.cell 2
     clear hkb5 hkb6 hfb6 ho2
     have HM6:=Lib.hid hm6
     have HK6:=Lib.hid hk6
     clear hr5 hk5 hkk hf5 y2 hm6 hk6))
 have hrn : (rawNum v).1 = IntKind.i64.wrap (fixedS v 0 0).1:=rfl
 have hre : (rawNum v).2 = if (fixedS v 0 0).2.2 = 0 then (if (fixedS v 0 0).2.1 < v.size then 22 else 0) else (fixedS v 0 0).2.2:=rfl
 have hF6:=HF5.out.name_ sl (IntKind.i64.wrap (fixedS v 0 0).1) (wrap_wf _) HK6.out (n:=if (nmV fs.G sl).isSome = true then n2 else n2 + 1) (by split <;> omega) (by rw [← nmV_upd]; exact HM6.out)
 have hB6 : Below base w w6:=((HB4.out.trans (HK5.out.to_below HB4.out.size (fun i hi=>by rw [hi]; exact Nat.le_trans HB3.out.size hr1))).mono hlow).trans (HK6.out.to_below (Nat.le_trans hlow (Nat.le_trans HB4.out.size HK5.out.size)) (fun i hi=>by rw [hi]; exact HF5.out.lo.2.2))
 have HF6:=Lib.hid hF6
 have HB6:=Lib.hid hB6
 obtain ⟨n5,_,y5⟩:=HF5.out.names
 obtain ⟨es5,cl5,ho5⟩:=y5.obj
 have hR6 : Rd w6 r v (fixedS v 0 0).2.1 (fixedS v 0 0).2.2:=Blk.keep HR5.out HK6.out (blk_ne_map HR5.out ho5)
 have hEnd:=Lib.hid (rd_end hR6 (fixedS_le (Nat.zero_le _)) hv)
 rw [← hre] at hEnd
 rw [← hrn] at HF6
 clear hR6 y5 ho5 hrn hre hrun hen
 generalize (rawNum v).2 = er at *
 generalize (rawNum v).1 = num at *
 go_wp2_with (
  go_at_call 98
  refine hEnd.out.mono ?_
  rintro e w7 ⟨rfl,nd,rfl⟩)
 go_ret
 refine ⟨below_drewN HB6.out nd,?_⟩
 by_cases he : er = 0
 ·subst he
  exact .inl ⟨_,own,by rw [HQ.out,if_pos rfl],rfl,HF6.out.below (below_drewN (Below.refl _ _) nd)⟩
 ·exact .inr ⟨by rw [HQ.out,if_neg he],by
   show Ending.returned (.bool (er == 0)) = _
   rw [show (er == 0) = false by simpa using he]⟩
end Go.Proofs.YtpboohfofodeeaaGreatDoor
