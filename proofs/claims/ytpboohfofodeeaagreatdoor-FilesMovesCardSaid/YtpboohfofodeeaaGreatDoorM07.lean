/- cmp.Or at int, two of them; state.Less (conditions: none). -/
import Derived.Test.YtpboohfofodeeaaGreatDoorM06
import Derived.StillTailTactics
import Derived.Sort.Grow
import Derived.StringKeys
import Derived.Maps.Keyed
import Derived.DeepKeys4
import Derived.Maps.RangeWalk
namespace Go.Proofs.YtpboohfofodeeaaGreatDoor
open Go.RowKit Go.Maps
def or2 (x y : Int) : Int:=if x = 0 then y else x
set_option maxRecDepth 100000 in
theorem cmp_or2 {w : World} {b : Nat} {x0 x1 : Int} (c0 : w.cell? ⟨b,0,none⟩ = some (.int .i64 x0)) (c1 : w.cell? ⟨b,1,none⟩ = some (.int .i64 x1)) :
 Calls Tryz.prog 148 #[.slice (some ⟨b,0,none⟩) 2 2] w fun e w'=>e = .returned (.int .i64 (or2 x0 x1)) ∧ w' = w:=by
 have HR0 : Hid (x0 ≠ 0 → or2 x0 x1 = x0):=Lib.hid fun h=>by unfold or2; rw [if_neg h]
 have HR1 : Hid (x0 = 0 → or2 x0 x1 = x1):=Lib.hid fun h=>by unfold or2; rw [if_pos h]
 generalize or2 x0 x1 = r at HR0 HR1 ⊢
 go_enter Tryz.func148,Tryz.ntmps148
 go_wp2
 go_loopw [8,5] (fun i _ wr=>∃ k : Nat,k ≤ 2 ∧ i = .int .i64 k ∧ wr = w ∧ Hid (0 < k → x0 = 0) ∧ Hid (1 < k → x1 = 0)) (fun i _ _=>2 - (intOf i).toNat)
 case atStart=>exact ⟨0,by omega,rfl,rfl,Lib.hid (by omega),Lib.hid (by omega)⟩
 case round=>
  obtain ⟨k,hk,rfl,rfl,h0,h1⟩:=hrel
  rcases (by omega : k = 0 ∨ k = 1 ∨ k = 2) with rfl | rfl | rfl
  ·by_cases hx : x0 = 0
   ·subst hx
    go_wp2
    go_roundw
    case rel=>exact ⟨1,by omega,by first | rfl | trivial,by first | rfl | trivial,Lib.hid fun _=>by first | rfl | trivial,Lib.hid fun h=>by omega⟩
    case measure=>simp [intOf]
   ·have hx' : (x0 != 0) = true:=by simpa using hx
    go_wp2
    go_ret
    exact ⟨by rw [HR0.out hx]; rfl,rfl⟩
  ·by_cases hx : x1 = 0
   ·subst hx
    go_wp2
    go_roundw
    case rel=>exact ⟨2,by omega,by first | rfl | trivial,by first | rfl | trivial,Lib.hid fun _=>h0.out (by omega),Lib.hid fun _=>by first | rfl | trivial⟩
    case measure=>simp [intOf]
   ·have hx' : (x1 != 0) = true:=by simpa using hx
    have hz:=h0.out (by omega)
    go_wp2
    go_ret
    exact ⟨by rw [HR1.out hz]; rfl,rfl⟩
  ·have hz:=h0.out (by omega)
   have hz1:=h1.out (by omega)
   go_wp2
   go_ret
   exact ⟨by rw [HR1.out hz,hz1]; rfl,rfl⟩
/-- The order of slots. -/
def lessS (d1 : Int) (n1 : ByteArray) (d2 : Int) (n2 : ByteArray) : Int:=or2 (Lib.compareInt d1 d2) (Lib.compareBytes n1.data.toList n2.data.toList)
theorem sl_cells {w : World} {b : Nat} {t : TypeId} {d : Int} {n : ByteArray} (h : Blk w b t #[.int .i64 d,.string n]) : w.cell? ⟨b,0,none⟩ = some (.int .i64 d) ∧ w.cell? ⟨b,1,none⟩ = some (.string n):=⟨h.cell 0,h.cell 1⟩
def slotV (d : Int) (n : ByteArray) : Value:=.agg #[.int .i64 d,.string n]
theorem grow_drew2 (w : World) (A B C : Obj) : (((w.alloc A).alloc B).drew).alloc C = Sort.grow (w.drewN 1) #[A,B,C]:=rfl
set_option maxRecDepth 100000 in
set_option maxHeartbeats 1000000 in
/-- Less, with the world that it leaves. -/
theorem st_less (d1 : Int) (n1 : ByteArray) (d2 : Int) (n2 : ByteArray) (w : World) :
 Calls Tryz.prog 82 #[slotV d1 n1,slotV d2 n2] w fun e w'=>e = .returned (.int .i64 (lessS d1 n1 d2 n2)) ∧ ∃ q os,w' = Sort.grow (w.drewN q) os:=by
 have hc : Hid (∀ W,Calls Tryz.prog 149 #[.int .i64 d1,.int .i64 d2] W fun e w'=>e = .returned (.int .i64 (Lib.compareInt d1 d2)) ∧ w' = W):=Lib.hid fun W=>Tryz.cmp_Compare_int d1 d2 W
 have hs : Hid (∀ W,Calls Tryz.prog 66 #[.string n1,.string n2] W fun e w'=>e = .returned (.int .i64 (Lib.compareBytes n1.data.toList n2.data.toList)) ∧ w' = W):=Lib.hid fun W=>Tryz.strings_Compare n1 n2 W
 unfold lessS slotV
 generalize Lib.compareInt d1 d2 = x0 at *
 generalize Lib.compareBytes n1.data.toList n2.data.toList = x1 at *
 have ho : Hid (∀ W b,W.cell? ⟨b,0,none⟩ = some (.int .i64 x0) → W.cell? ⟨b,1,none⟩ = some (.int .i64 x1) → Calls Tryz.prog 148 #[.slice (some ⟨b,0,none⟩) 2 2] W fun e w'=>e = .returned (.int .i64 (or2 x0 x1)) ∧ w' = W):=Lib.hid fun W b h0 h1=>cmp_or2 h0 h1
 generalize or2 x0 x1 = r at *
 go_enter Tryz.func82,Tryz.ntmps82
 go_upto_region 1 with fail
 have hB1:=(Blk.new w 96 #[.int .i64 d1,.string n1]).alloc (.cells #[.int .i64 d2,.string n2] 96)
 have hB2:=Blk.new (w.alloc (.cells #[.int .i64 d1,.string n1] 96)) 96 #[.int .i64 d2,.string n2]
 have hhs : (w.alloc (.cells #[.int .i64 d1,.string n1] 96)).heap.size = w.heap.size + 1:=by simp
 rw [hhs] at hB2
 clear hhs
 have hW : Hid (∀ C,(((w.alloc (.cells #[.int .i64 d1,.string n1] 96)).alloc (.cells #[.int .i64 d2,.string n2] 96)).drew).alloc C = Sort.grow (w.drewN 1) #[(.cells #[.int .i64 d1,.string n1] 96),(.cells #[.int .i64 d2,.string n2] 96),C]):=Lib.hid fun C=>grow_drew2 w _ _ C
 generalize (w.alloc (.cells #[.int .i64 d1,.string n1] 96)).alloc (.cells #[.int .i64 d2,.string n2] 96) = w0 at *
 obtain ⟨c0,c1⟩:=sl_cells hB1
 obtain ⟨c2,c3⟩:=sl_cells hB2
 clear hB1 hB2
 refine wp_region_still_tail 10 (by kernel_rfl) (by kernel_rfl) ?_
 simp only [List.take_succ_cons,List.take_zero,List.drop_succ_cons,List.drop_zero]
 repeat still_step
 still_call (hc.out _)
 repeat still_step
 still_call (hs.out _)
 repeat still_step
 try refine wpStill_nil ?_
 change wpList _ _ _ _ _ w0.drew
 have hB:=Blk.new w0.drew 3 #[.int .i64 x0,.int .i64 x1]
 have hor:=Lib.hid (ho.out _ _ (hB.cell 0) (hB.cell 1))
 clear hB c0 c1 c2 c3 ho hc hs
 go_wp2_with (go_at_call 148; refine hor.out.mono ?_; rintro e w' ⟨rfl,rfl⟩)
 go_ret
 exact ⟨rfl,1,_,hW.out _⟩
end Go.Proofs.YtpboohfofodeeaaGreatDoor
/- sparse.Check (conditions: none). -/
namespace Go.Proofs.YtpboohfofodeeaaGreatDoor
open Go.RowKit Go.Maps
/-- A list of pieces in memory. -/
def RdP (w : World) (A : Option Addr) (n : Nat) (ps : List (Int × ByteArray)) : Prop:=ps.length = n ∧ (0 < n → ∃ g o : Nat,A = some ⟨g,o,none⟩ ∧ ∀ j x,ps[j]? = some x → w.cell? ⟨g,o + j * 2,none⟩ = some (.int .i64 x.1) ∧ w.cell? ⟨g,o + j * 2 + 1,none⟩ = some (.string x.2))
theorem RdP.below {w w' : World} {A : Option Addr} {n : Nat} {ps : List (Int × ByteArray)} (h : RdP w A n ps) (hb : Below w.heap.size w w') : RdP w' A n ps:=⟨h.1,fun hn=>by
 obtain ⟨g,o,e,hc⟩:=h.2 hn
 exact ⟨g,o,e,fun j x hx=>⟨keepc' hb (hc j x hx).1,keepc' hb (hc j x hx).2⟩⟩⟩
theorem RdP.at_ {w : World} {A : Option Addr} {n : Nat} {ps : List (Int × ByteArray)} (h : RdP w A n ps) {k : Nat} (hk : k < n) : ∃ (g o : Nat) (hl : k < ps.length),A = some ⟨g,o,none⟩ ∧ w.cell? ⟨g,o + k * 2,none⟩ = some (.int .i64 ps[k].1) ∧ w.cell? ⟨g,o + k * 2 + 1,none⟩ = some (.string ps[k].2):=by
 obtain ⟨g,o,e,hc⟩:=h.2 (by omega)
 have hl : k < ps.length:=by have:=h.1; omega
 exact ⟨g,o,hl,e,hc k _ (List.getElem?_eq_getElem hl)⟩
/-- Are the pieces behind 'last' right? -/
def rightP (size : Int) : Int → List (Int × ByteArray) → Prop
 | _,[]=>True
 | last,x :: t=>(last < x.1 ∧ x.1 * 64 < size ∧ x.2.size = 64 ∧ (size - x.1 * 64 < 64 → Lib.trimB (x.2.extract (size - x.1 * 64).toNat 64).data.toList 0 = [])) ∧ rightP size x.1 t
def checkP (size : Int) (ps : List (Int × ByteArray)) : Prop:=0 ≤ size ∧ size ≤ 4611686018427387904 ∧ rightP size (-1) ps
def ChkEnds (size : Int) (ps : List (Int × ByteArray)) (e : Ending) : Prop:=checkP size ps ∧ e = .returned (.int .i64 0) ∨ ¬ checkP size ps ∧ e = .returned (.int .i64 21)
set_option maxRecDepth 100000 in
set_option maxHeartbeats 2000000 in
theorem sp_check {w : World} {A : Option Addr} {n c : Nat} {ps : List (Int × ByteArray)} (size : Int) (hR : RdP w A n ps) (hn : n ≤ 70368744175616) :
 Calls Tryz.prog 100 #[.slice A n c,.int .i64 size] w fun e w'=>ChkEnds size ps e ∧ Below w.heap.size w w':=by
 have HR:=Lib.hid hR
 clear hR
 by_cases hbad : size < 0 ∨ size > 4611686018427387904
 ·have hno : Hid (ChkEnds size ps (.returned (.int .i64 21))):=Lib.hid (.inr ⟨fun h=>by unfold checkP at h; omega,rfl⟩)
  go_enter Tryz.func100,Tryz.ntmps100
  go_wp2
  all_goals go_ret
  all_goals first | exact ⟨hno.out,Below.refl _ _⟩ | (exfalso; omega)
 have hb1 : 0 ≤ size:=by omega
 have hb2 : size ≤ 4611686018427387904:=by omega
 clear hbad
 go_enter Tryz.func100,Tryz.ntmps100
 go_wp2
 go_loopw [5,17] (fun l i wr=>∃ k : Nat,∃ last : Int,k ≤ n ∧ -1 ≤ last ∧ last ≤ 72057594037927936 ∧ i = .int .i64 k ∧ l = .int .i64 last ∧ Below w.heap.size w wr ∧ Hid (checkP size ps ↔ rightP size last (ps.drop k))) (fun _ i _=>n - (intOf i).toNat)
 case atStart=>exact ⟨0,-1,by omega,by omega,by omega,rfl,rfl,Below.refl _ _,Lib.hid (by unfold checkP; simp only [List.drop_zero]; exact ⟨fun h=>h.2.2,fun h=>⟨hb1,hb2,h⟩⟩)⟩
 case round=>
  obtain ⟨k,last,hk,hl0,hl1,rfl,rfl,hb,HCP⟩:=hrel
  by_cases hlt : k < n
  ·have hR2:=HR.out.below hb
   obtain ⟨g,o,hl,rfl,hc0,hc1⟩:=hR2.at_ hlt
   have hd : ps.drop k = ps[k] :: ps.drop (k + 1):=List.drop_eq_getElem_cons hl
   have HC:=HCP.out
   rw [hd,rightP] at HC
   clear HCP hd
   generalize ps[k].1 = ix at hc0 HC
   generalize ps[k].2 = dt at hc1 HC
   have HC:=Lib.hid HC
   clear hR2
   have hq : 1 ≤ size → (size - 1).tdiv 64 * 64 ≤ size - 1 ∧ size - 1 < (size - 1).tdiv 64 * 64 + 64:=fun h=>by
    rw [Int.tdiv_eq_ediv_of_nonneg (by omega)]; omega
   have hq0 : size = 0 → (size - 1).tdiv 64 = 0:=fun h=>by subst h; rfl
   generalize hqe : (size - 1).tdiv 64 = q at hq hq0
   have hqb : 0 ≤ q ∧ q ≤ 72057594037927936:=by
    by_cases h : size = 0
    ·rw [hq0 h]; omega
    ·have:=hq (by omega); omega
   have hwq : IntKind.i64.wrap q = q:=by rw [IntKind.wrap_i64]; omega
   have hbl:=Lib.hid (hb.alloc hb.size (.cells #[.int .i64 ix,.string dt] 111))
   have hno : (¬ (last < ix ∧ ix * 64 < size ∧ dt.size = 64)) → Hid (ChkEnds size ps (.returned (.int .i64 21))):=fun h=>Lib.hid (.inr ⟨fun hc=>by
    obtain ⟨⟨a,b,c,_⟩,_⟩:=HC.out.1 hc
    exact h ⟨a,b,c⟩,rfl⟩)
   by_cases h1 : ix ≤ last
   ·have hno:=hno (by omega)
    go_wp2
    go_ret
    exact ⟨hno.out,hbl.out⟩
   have h1' : last < ix:=by omega
   by_cases h2 : q < ix
   ·have hno:=hno (by
     by_cases h : size = 0
     ·omega
     ·have:=hq (by omega); omega)
    clear hq hq0
    go_wp2
    go_ret
    exact ⟨hno.out,hbl.out⟩
   have h2' : ix ≤ q:=by omega
   by_cases h3 : size = 0
   ·have hno:=hno (by omega)
    subst h3
    clear hq hq0
    go_wp2
    all_goals go_ret
    all_goals exact ⟨hno.out,hbl.out⟩
   by_cases h4 : dt.size = 64
   ·have h4' : ((dt.size : Int) != 64) = false:=by rw [h4]; rfl
    have h3' : (size == 0) = false:=by simpa using h3
    obtain ⟨lf,hlf⟩ : ∃ lf : Nat,size = ix * 64 + lf:=⟨(size - ix * 64).toNat,by have:=hq (by omega); omega⟩
    have hw1 : IntKind.i64.wrap (ix * 64) = ix * 64:=by rw [IntKind.wrap_i64]; omega
    have hw2 : IntKind.i64.wrap (size - ix * 64) = lf:=by rw [IntKind.wrap_i64]; omega
    have hix : 0 ≤ ix ∧ ix ≤ 72057594037927936:=by omega
    have hls : ix * 64 < size:=by have:=hq (by omega); omega
    have hs1 : size - ix * 64 = lf:=by omega
    have HC : Hid (checkP size ps ↔ ((lf : Int) < 64 → Lib.trimB (dt.extract lf 64).data.toList 0 = []) ∧ rightP size ix (ps.drop (k + 1))):=Lib.hid (by
     have h:=HC.out
     rw [hs1,Int.toNat_natCast] at h
     rw [h]
     exact ⟨fun ⟨⟨_,_,_,b⟩,d⟩=>⟨b,d⟩,fun ⟨b,d⟩=>⟨⟨h1',hls,h4,b⟩,d⟩⟩)
    clear hq hq0 hlf hno hs1
    by_cases h5 : lf < 64
    ·have h5' : (lf : Int) < 64:=by omega
     have h5'' : (lf : Int) ≤ (dt.size : Int):=by omega
     have hTR : Hid (∀ W,Calls Tryz.prog 170 #[.string (dt.extract lf 64),.string ⟨#[0]⟩] W fun e w'=>e = .returned (.string ⟨(Lib.trimB (dt.extract lf 64).data.toList 0).toArray⟩) ∧ (w' = W ∨ w' = W.drew)):=Lib.hid fun W=>Tryz.strings_Trim_one _ 0 (by decide) W (by rw [ByteArray.size_extract]; omega)
     generalize hto : Lib.trimB (dt.extract lf 64).data.toList 0 = tr at HC hTR
     clear hto
     have htl : ((⟨tr.toArray⟩ : ByteArray).toList = []) ↔ tr = []:=by rw [ByteArray.toList_eq]
     generalize (⟨tr.toArray⟩ : ByteArray) = ts at hTR htl
     have HTL:=Lib.hid htl
     clear htl
     go_wp2_with (go_at_call 170; refine (hTR.out _).mono ?_; rintro e w' ⟨rfl,hw'⟩; have HB' : Hid (Below w.heap.size w w'):=(by rcases hw' with rfl | rfl; exact hbl; exact Lib.hid hbl.out.drew); clear hw')
     ·go_ret
      have hne : ¬ tr = []:=fun h=>by
       have h2:=HTL.out.2 h
       have h3 : (!ts.toList.isEmpty) = true:=by assumption
       rw [h2] at h3
       cases h3
      exact ⟨.inr ⟨fun hc=>hne ((HC.out.1 hc).1 h5'),rfl⟩,HB'.out⟩
     ·go_roundw
      case rel=>
       have he : tr = []:=HTL.out.1 (by
        have h3 : (!ts.toList.isEmpty) = false:=by assumption
        simpa using h3)
       exact ⟨k + 1,ix,by omega,by omega,by omega,by go_num,rfl,HB'.out,Lib.hid (HC.out.trans ⟨fun h=>h.2,fun h=>⟨fun _=>he,h⟩⟩)⟩
      case measure=>simp [intOf]; omega
    ·have h5' : ¬ (lf : Int) < 64:=by omega
     go_wp2
     go_roundw
     case rel=>exact ⟨k + 1,ix,by omega,by omega,by omega,by go_num,rfl,hbl.out,Lib.hid (HC.out.trans ⟨fun h=>h.2,fun h=>⟨fun h6=>absurd h6 h5',h⟩⟩)⟩
     case measure=>simp [intOf]; omega
   ·have h4' : ((dt.size : Int) != 64) = true:=by simp; omega
    have hno:=hno (by omega)
    clear hq hq0
    go_wp2
    go_ret
    exact ⟨hno.out,hbl.out⟩
  ·have hnil : ps.drop k = []:=List.drop_eq_nil_of_le (by have:=HR.out.1; omega)
   have hyes : Hid (ChkEnds size ps (.returned (.int .i64 0))):=Lib.hid (.inl ⟨HCP.out.2 (by rw [hnil]; trivial),rfl⟩)
   clear HCP
   go_wp2
   go_ret
   exact ⟨hyes.out,hb⟩
end Go.Proofs.YtpboohfofodeeaaGreatDoor
/- sparse.find (conditions: none). -/
namespace Go.Proofs.YtpboohfofodeeaaGreatDoor
open Go.RowKit Go.Maps
set_option maxRecDepth 100000 in
theorem sp_cmp (ix t : Int) (d : ByteArray) (w : World) (h1 : 0 ≤ ix ∧ ix ≤ 72057594037927936) (h2 : 0 ≤ t ∧ t ≤ 72057594037927936) :
 Calls Tryz.prog 236 #[.agg #[.int .i64 ix,.string d],.int .i64 t] w fun e w'=>e = .returned (.int .i64 (ix - t)) ∧ Below w.heap.size w w':=by
 have hw : IntKind.i64.wrap (ix - t) = ix - t:=by rw [IntKind.wrap_i64]; omega
 go_enter Tryz.func236,Tryz.ntmps236
 go_wp2
 go_ret
 exact ⟨rfl,(Below.refl _ _).alloc (Nat.le_refl _) _⟩
/-- Where number t stands in the list, or would. -/
def PlaceOf (ps : List (Int × ByteArray)) (t : Int) (i : Nat) : Prop:=i ≤ ps.length ∧ (∀ a x,ps[a]? = some x → a < i → x.1 < t) ∧ (∀ a x,ps[a]? = some x → i ≤ a → t ≤ x.1)
def Rises (ps : List (Int × ByteArray)) : Prop:=∀ (a b : Nat) x y,ps[a]? = some x → ps[b]? = some y → a < b → x.1 < y.1
def foundB (ps : List (Int × ByteArray)) (t : Int) (i : Nat) : Bool:=match ps[i]? with | some x=>decide (x.1 = t) | none=>false
def FindEnds (ps : List (Int × ByteArray)) (t : Int) (e : Ending) : Prop:=∃ i : Nat,PlaceOf ps t i ∧ e = .returned (.tuple #[.int .i64 i,.bool (foundB ps t i)])
set_option maxRecDepth 100000 in
set_option maxHeartbeats 2000000 in
theorem sp_bsearch {w : World} {A : Option Addr} {n c : Nat} {ps : List (Int × ByteArray)} (t : Int) (hR : RdP w A n ps) (hn : n ≤ 70368744175616) (hr : Rises ps) (hb : ∀ x ∈ ps,0 ≤ x.1 ∧ x.1 ≤ 72057594037927936) (ht : 0 ≤ t ∧ t ≤ 72057594037927936) :
 Calls Tryz.prog 235 #[.slice A n c,.int .i64 t,.func (Fn.func 236) #[] #[]] w fun e w'=>FindEnds ps t e ∧ Below w.heap.size w w':=by
 have HR:=Lib.hid hR
 have HRI:=Lib.hid hr
 have HBD:=Lib.hid hb
 have HC : Hid (∀ ix d W,0 ≤ ix ∧ ix ≤ 72057594037927936 → Calls Tryz.prog 236 #[.agg #[.int .i64 ix,.string d],.int .i64 t] W fun e w'=>e = .returned (.int .i64 (ix - t)) ∧ Below W.heap.size W w'):=Lib.hid fun ix d W h=>sp_cmp ix t d W h ht
 clear hR hr hb
 go_enter Tryz.func235,Tryz.ntmps235
 go_wp2
 go_loopw [9,10] (fun i j wr=>∃ a b : Nat,a ≤ b ∧ b ≤ n ∧ i = .int .i64 a ∧ j = .int .i64 b ∧ Below w.heap.size w wr ∧ Hid (∀ k x,ps[k]? = some x → k < a → x.1 < t) ∧ Hid (∀ k x,ps[k]? = some x → b ≤ k → t ≤ x.1)) (fun i j _=>(intOf j).toNat - (intOf i).toNat)
 case atStart=>exact ⟨0,n,by omega,by omega,rfl,rfl,Below.refl _ _,Lib.hid (fun _ _ _ h=>by omega),Lib.hid (fun k x h1 h2=>by
  have:=(List.getElem?_eq_some_iff.1 h1).1
  have:=HR.out.1
  omega)⟩
 case round=>
  obtain ⟨a,b,hab,hbn,rfl,rfl,hbl,h1,h2⟩:=hrel
  by_cases hlt : a < b
  ·obtain ⟨m,hm⟩ : ∃ m : Nat,m = (a + b) / 2:=⟨_,rfl⟩
   have hma : a ≤ m ∧ m < b:=by omega
   have hmi : ((a : Int) + (b : Int)) / 2 = (m : Int):=by omega
   have hR2:=HR.out.below hbl
   obtain ⟨g,o,hl,rfl,hc0,hc1⟩:=hR2.at_ (k:=m) (by omega)
   have hx:=List.getElem?_eq_getElem hl
   have hbd:=HBD.out ps[m] (List.getElem_mem hl)
   generalize ps[m] = x at hc0 hc1 hx hbd
   have HX:=Lib.hid hx
   clear hR2 hx hm
   by_cases hxt : x.1 - t < 0
   ·go_wp2_with (go_at_call 236; refine (HC.out _ _ _ hbd).mono ?_; rintro e w2 ⟨rfl,hb2⟩; have HB2:=Lib.hid (bl_t hbl hb2); clear hb2)
    go_roundw
    case rel=>exact ⟨m + 1,b,by omega,hbn,by go_num,rfl,HB2.out,Lib.hid (fun k y hy hk=>by
     rcases Nat.lt_succ_iff_lt_or_eq.1 hk with h | rfl
     ·have:=HRI.out k m y x hy HX.out h; omega
     ·obtain rfl:=Option.some.inj (hy.symm.trans HX.out); omega),h2⟩
    case measure=>simp [intOf]; omega
   ·go_wp2_with (go_at_call 236; refine (HC.out _ _ _ hbd).mono ?_; rintro e w2 ⟨rfl,hb2⟩; have HB2:=Lib.hid (bl_t hbl hb2); clear hb2)
    go_roundw
    case rel=>exact ⟨a,m,by omega,by omega,rfl,rfl,HB2.out,h1,Lib.hid (fun k y hy hk=>by
     rcases Nat.lt_or_eq_of_le hk with h | rfl
     ·have:=HRI.out m k x y HX.out hy h; omega
     ·obtain rfl:=Option.some.inj (hy.symm.trans HX.out); omega)⟩
    case measure=>simp [intOf]; omega
  ·obtain rfl : a = b:=by omega
   have hlen:=HR.out.1
   have hpl : Hid (PlaceOf ps t a):=Lib.hid ⟨by omega,fun k x hx hk=>h1.out k x hx hk,fun k x hx hk=>h2.out k x hx hk⟩
   clear h1 h2
   by_cases han : a < n
   ·have hR2:=HR.out.below hbl
    obtain ⟨g,o,hl,rfl,hc0,hc1⟩:=hR2.at_ (k:=a) han
    have hx:=List.getElem?_eq_getElem hl
    have hbd:=HBD.out ps[a] (List.getElem_mem hl)
    generalize ps[a] = x at hc0 hc1 hx hbd
    have HX:=Lib.hid hx
    clear hR2 hx hlen
    have hF : Hid (FindEnds ps t (.returned (.tuple #[.int .i64 a,.bool (x.1 - t == 0)]))):=Lib.hid ⟨a,hpl.out,by
     rw [foundB,HX.out]
     have : (x.1 - t == 0) = decide (x.1 = t):=by
      by_cases h : x.1 = t
      ·simp [h]
      ·simp [h]; omega
     rw [this]⟩
    go_wp2_with (go_at_call 236; refine (HC.out _ _ _ hbd).mono ?_; rintro e w2 ⟨rfl,hb2⟩; have HB2:=Lib.hid (bl_t hbl hb2); clear hb2)
    go_ret2
    exact ⟨hF.out,HB2.out⟩
   ·have hF : Hid (FindEnds ps t (.returned (.tuple #[.int .i64 a,.bool false]))):=Lib.hid ⟨a,hpl.out,by
     rw [foundB,List.getElem?_eq_none (by omega)]⟩
    go_wp2
    go_ret2
    exact ⟨hF.out,hbl⟩
set_option maxRecDepth 100000 in
theorem sp_find {w : World} {A : Option Addr} {n c : Nat} {ps : List (Int × ByteArray)} (t : Int) (hR : RdP w A n ps) (hn : n ≤ 70368744175616) (hr : Rises ps) (hb : ∀ x ∈ ps,0 ≤ x.1 ∧ x.1 ≤ 72057594037927936) (ht : 0 ≤ t ∧ t ≤ 72057594037927936) :
 Calls Tryz.prog 179 #[.slice A n c,.int .i64 t] w fun e w'=>FindEnds ps t e ∧ Below w.heap.size w w':=by
 have HB:=Lib.hid (sp_bsearch (c:=c) t hR hn hr hb ht)
 clear hR hr hb
 go_enter Tryz.func179,Tryz.ntmps179
 go_wp2_with (go_at_call 235; refine HB.out.mono ?_; rintro e w2 ⟨⟨i,hp,rfl⟩,hb2⟩; have HP:=Lib.hid hp; have HB2:=Lib.hid hb2; clear hp hb2)
 go_ret2
 exact ⟨⟨i,HP.out,rfl⟩,HB2.out⟩
end Go.Proofs.YtpboohfofodeeaaGreatDoor
/- files: here (conditions: none). -/
namespace Go.Proofs.YtpboohfofodeeaaGreatDoor
open Go.RowKit Go.Maps
def spotV (d : Int) (n : ByteArray) (ino : Int) : Value:=.agg #[.int .i64 d,.string n,.int .i64 ino]
set_option maxRecDepth 100000 in
theorem fl_here (d : Int) (n : ByteArray) (ino : Int) (w : World) :
 Calls Tryz.prog 107 #[spotV d n ino] w fun e w'=>e = .returned (.bool (n.toList.isEmpty)) ∧ Below w.heap.size w w':=by
 unfold spotV
 go_enter Tryz.func107,Tryz.ntmps107
 go_wp2
 go_ret
 exact ⟨by simp,(Below.refl _ _).alloc (Nat.le_refl _) _⟩
end Go.Proofs.YtpboohfofodeeaaGreatDoor
/- Maps keyed by whatever the kit can key (strings, structs): as Kp's MapI, over a way to write keys (conditions: none; printed out of Kp's section by program, session 3). -/
namespace Go.Proofs.YtpboohfofodeeaaGreatDoor
open Go.RowKit Go.Maps Go.WideShapes
/-- How keys of type κ stand in memory, and as the kit's keys. -/
structure KeyEnc (P : Program) (kt : TypeId) {κ : Type} (lit : κ → Lit) (enc : κ → Value) (ok : κ → Prop) : Prop where
 keyed : Keyed P kt
 inj : ∀ x y,lit x = lit y → x = y
 isKey : ∀ k,WideAt.IsKeyLit (lit k)
 of : ∀ k,ok k → keyOf P kt (enc k) = some (lit k)
def litS (s : ByteArray) : Lit:=.string s.data.toList
theorem encS_string {P : Program} {kt : TypeId} (hk : P.underlying kt = some .string) : KeyEnc P kt litS Value.string (fun s=>s.size ≤ maxLen):=
 ⟨string_keyed hk,fun x y h=>by
  unfold litS at h
  injection h with h
  obtain ⟨⟨a⟩⟩:=x
  obtain ⟨⟨b⟩⟩:=y
  simpa using h,fun _=>trivial,fun s hs=>Go.WideMaps.keyOf_string_mk hk hs⟩
def valAtK {κ : Type} (lit : κ → Lit) (D : DataW Value) (k : κ) : Option Value:=if Maps.has D (lit k) = true then (match D.atKey (lit k) .nil with | .held v=>some v | _=>none) else none
open Classical in
noncomputable def updK {κ α : Type} (f : κ → Option α) (k : κ) (v : α) : κ → Option α:=fun x=>if x = k then some v else f x
open Classical in
noncomputable def remK {κ α : Type} (f : κ → Option α) (k : κ) : κ → Option α:=fun x=>if x = k then none else f x
def MapK {κ : Type} (lit : κ → Lit) (P : Program) (kt : TypeId) (w : World) (b : Nat) (f : κ → Option Value) (n : Nat) : Prop:=
 ∃ D,w.ownsMap P kt Rv b n D ∧ Maps.size D = n ∧ ∀ k,valAtK lit D k = f k

section
variable {κ : Type} {lit : κ → Lit} {enc : κ → Value} {ok : κ → Prop} {P : Program} {kt : TypeId} {w w' : World} {b n : Nat} {f : κ → Option Value}
theorem MapK.made (lit : κ → Lit) (P : Program) (kt : TypeId) (w : World) : MapK lit P kt (w.alloc (.map #[] 0)) w.heap.size (fun _=>none) 0:=
 ⟨.map [],World.ownsMap_made w P kt Rv,rfl,fun _=>rfl⟩
theorem MapK.lt (h : MapK lit P kt w b f n) : b < w.heap.size:=let ⟨_,h,_⟩:=h; h.lt
theorem MapK.keep {S : Nat → Prop} (h : MapK lit P kt w b f n) (hk : Keep S w w') (hn : ¬ S b) : MapK lit P kt w' b f n:=by
 obtain ⟨D,⟨es,clock,hb,r⟩,h2⟩:=h
 exact ⟨D,⟨es,clock,hk.heap hb hn,r⟩,h2⟩
theorem MapK.alloc (h : MapK lit P kt w b f n) (o : Obj) : MapK lit P kt (w.alloc o) b f n:=h.keep ((Keep.refl (fun _=>False) w).alloc o) (fun h=>h)
theorem MapK.drew (h : MapK lit P kt w b f n) : MapK lit P kt w.drew b f n:=h
theorem MapK.drewN (h : MapK lit P kt w b f n) (m : Nat) : MapK lit P kt (w.drewN m) b f n:=h
theorem MapK.blk_ne (h : MapK lit P kt w b f n) {g : Nat} {t : TypeId} {cs : Array Value} (hg : Blk w g t cs) : b ≠ g:=by
 rintro rfl
 obtain ⟨D,⟨es,clock,hb,r⟩,h2⟩:=h
 unfold Blk at hg
 rw [hb] at hg
 cases hg
theorem MapK.own_ne (h : MapK lit P kt w b f n) {base : Nat} {e : TypeId} {size m : Nat} {v : Value} {xs : List Value} (ho : w.ownsRow base e size v m xs) : v.ownBlock ≠ some b:=by
 rcases ho.2 with ⟨rfl,_⟩ | ⟨g',cap,cur,rfl,_,hh,_⟩
 ·simp [Value.ownBlock]
 ·intro he
  have : g' = b:=by simpa [Value.ownBlock] using he
  subst this
  exact h.blk_ne (t:=e) (cs:=cur) hh rfl
theorem MapK.setCell (h : MapK lit P kt w b f n) {p : Addr} (hp : b ≠ p.block) (u : Value) : MapK lit P kt (w.setCell p u) b f n:=
 h.keep ((Keep.refl (fun k=>k = p.block) w).setCell (.inl rfl) u) hp
theorem MapK.congr {f' : κ → Option Value} (h : MapK lit P kt w b f n) (e : ∀ k,f k = f' k) : MapK lit P kt w b f' n:=by
 obtain ⟨D,h1,h2,h3⟩:=h
 exact ⟨D,h1,h2,fun k=>(h3 k).trans (e k)⟩

theorem held_of_hasK {D : DataW Value} (h1 : w.ownsMap P kt Rv b n D) (E : KeyEnc P kt lit enc ok) {k : κ} (hh : Maps.has D (lit k) = true) : ∃ v,∀ z,D.atKey (lit k) z = .held v:=by
 obtain ⟨es,clock,hb,F,hs,rfl⟩:=h1
 rcases List.any_eq_true.1 hh with ⟨p,hp,hpk⟩
 have hp' : p ∈ es.toList.map (WideElems.rg P kt Rv):=(sorted_perm _).mem_iff.1 hp
 obtain ⟨x,hx,rfl⟩:=List.mem_map.1 hp'
 refine ⟨x.val,fun z=>?_⟩
 rw [(atKey_sorted (es.toList.map (WideElems.rg P kt Rv)) (Maps.fit_rising E.keyed F) (lit k) (E.isKey k)).2 _ hp' (WideAt.sameKey_eq hpk) z]
 obtain ⟨y,hy⟩:=F.reads x hx
 rw [WideElems.rg_of hy]
 obtain ⟨z,hz,hd⟩:=WideElems.rd_val hy
 unfold Rv at hz; cases hz
 exact hd
theorem isSome_valAtK {D : DataW Value} (h1 : w.ownsMap P kt Rv b n D) (E : KeyEnc P kt lit enc ok) (k : κ) : (valAtK lit D k).isSome = Maps.has D (lit k):=by
 unfold valAtK
 cases hh : Maps.has D (lit k)
 ·rfl
 ·obtain ⟨v,hv⟩:=held_of_hasK h1 E hh
  rw [if_pos rfl,hv]; rfl
theorem MapK.of_own {D : DataW Value} (h : w.ownsMap P kt Rv b n D) (hf : ∀ k,valAtK lit D k = f k) : MapK lit P kt w b f (Maps.size D):=⟨D,own_exact h,rfl,hf⟩

theorem MapK.look (h : MapK lit P kt w b f n) (E : KeyEnc P kt lit enc ok) {t e : TypeId} (ht : P.underlying t = some (.map kt e)) {z : Value} (hz : (zeroValue e).run P w = .ok z w) (c : Bool) (k : κ) (hw : ok k) :
 (Instr.lookup t (.map (some b)) (enc k) c).run P w = .ok (if c then .tuple #[(f k).getD z,.bool (f k).isSome] else (f k).getD z) w:=by
 obtain ⟨D,⟨es,clock,hb,F,hs,rfl⟩,hn,hv⟩:=h
 rcases Maps.fit_look c E.keyed ht hz hb F (E.of k hw) with ⟨hrun,_,hat⟩ | ⟨e0,y,_,_,hrun,hRv,hat,_⟩
 ·have e : f k = none:=by rw [← hv k]; unfold valAtK; rw [Maps.has_false_of_atKey hat]; rfl
  rw [e]; exact hrun
 ·have e : f k = some e0.val:=by
   rw [← hv k]; unfold valAtK; rw [Maps.has_true_of_atKey hat,if_pos rfl,hat]
   unfold Rv at hRv; cases hRv; rfl
  rw [e]; exact hrun

theorem MapK.store (h : MapK lit P kt w b f n) (E : KeyEnc P kt lit enc ok) {t e : TypeId} (ht : P.underlying t = some (.map kt e)) (hn : n < maxLen) (k : κ) (hw : ok k) (v : Value) :
 ∃ w',(Instr.mapUpdate t (.map (some b)) (enc k) v).run P w = .ok () w' ∧ MapK lit P kt w' b (updK f k v) (if (f k).isSome = true then n else n + 1) ∧ Keep (fun i=>i = b) w w' ∧ w'.heap.size = w.heap.size:=by
 obtain ⟨D,h1,h2,h3⟩:=h
 have hT:=h1.tidy E.keyed
 obtain ⟨w',hrun,⟨es',clock',hb',F',hs',hD'⟩,hm⟩:=h1.store E.keyed ht hn (E.of k hw) (val:=v) (d:=.held v) (ps:=[]) rfl
 have hsz:=Maps.size_put (k:=lit k) hT (.held v)
 have hiff : (f k).isSome = Maps.has D (lit k):=by rw [← h3 k]; exact isSome_valAtK h1 E k
 refine ⟨w',hrun,⟨D.put (lit k) (.held v),⟨es',clock',hb',F',?_,hD'⟩,?_,?_⟩,Keep.of_grown hm.grown _ (fun i hi=>.inl (by cases hi; rfl)),?_⟩
 ·have e1 : es'.size = Maps.size (D.put (lit k) (.held v)):=by rw [hD']; simp [Maps.size,length_sorted]
  rw [e1,hsz,hiff,h2]; exact Nat.le_refl _
 ·rw [hsz,hiff,h2]
 ·intro x
  unfold updK
  by_cases e : x = k
  ·subst e
   rw [if_pos rfl]; unfold valAtK
   rw [Maps.has_put_same hT.isMap (E.isKey x),if_pos rfl,Maps.atKey_put_same hT.isMap (E.isKey x)]
  ·rw [if_neg e]
   have hne : lit x ≠ lit k:=fun h=>e (E.inj _ _ h)
   rw [← h3 x]; unfold valAtK
   rw [Maps.has_put_other hne,Maps.atKey_put_other hne]
 ·obtain ⟨_,_,_,_,_,rfl⟩:=hm
  simp [ChangeMaps.setBlock]

theorem MapK.drop (h : MapK lit P kt w b f n) (E : KeyEnc P kt lit enc ok) {t e : TypeId} (ht : P.underlying t = some (.map kt e)) (k : κ) (hw : ok k) (ty : TypeId) :
 ∃ w',(Builtin.delete_ #[t,kt] ty #[.map (some b),enc k]).run P w = .ok (.tuple #[]) w' ∧ MapK lit P kt w' b (remK f k) (if (f k).isSome = true then n - 1 else n) ∧ Keep (fun i=>i = b) w w' ∧ w'.heap.size = w.heap.size:=by
 obtain ⟨D,h1,h2,h3⟩:=h
 have hT:=h1.tidy E.keyed
 obtain ⟨w',hrun,⟨es',clock',hb',F',hs',hD'⟩,hm⟩:=h1.drop E.keyed ht (E.of k hw) ty
 have hsz:=Maps.size_del (k:=lit k) hT
 have hiff : (f k).isSome = Maps.has D (lit k):=by rw [← h3 k]; exact isSome_valAtK h1 E k
 have hsz' : Maps.size (D.del (lit k)) = if (f k).isSome = true then n - 1 else n:=by
  rw [hiff]; rw [h2] at hsz
  cases hh : Maps.has D (lit k) <;> rw [hh] at hsz <;> simp at hsz ⊢ <;> omega
 refine ⟨w',hrun,⟨D.del (lit k),⟨es',clock',hb',F',?_,hD'⟩,hsz',?_⟩,Keep.of_grown hm.grown _ (fun i hi=>.inl (by cases hi; rfl)),?_⟩
 ·have e1 : es'.size = Maps.size (D.del (lit k)):=by rw [hD']; simp [Maps.size,length_sorted]
  rw [e1,hsz']; exact Nat.le_refl _
 ·intro x
  unfold remK
  by_cases e : x = k
  ·subst e
   rw [if_pos rfl]; unfold valAtK
   rw [Maps.has_del_same]; rfl
  ·rw [if_neg e]
   have hne : lit x ≠ lit k:=fun h=>e (E.inj _ _ h)
   rw [← h3 x]; unfold valAtK
   rw [Maps.has_del_other hne,Maps.atKey_del_other hne]
 ·obtain ⟨_,_,_,_,_,rfl⟩:=hm
  simp [ChangeMaps.setBlock]

theorem MapK.len (h : MapK lit P kt w b f n) {t e : TypeId} (ht : P.underlying t = some (.map kt e)) (ty : TypeId) : (Builtin.len_ #[t] ty #[.map (some b)]).run P w = .ok (.int .i64 n) w:=by
 obtain ⟨D,h1,h2,h3⟩:=h
 rw [← h2]; exact h1.len ht ty

theorem MapK.clear (h : MapK lit P kt w b f n) {t e : TypeId} (ht : P.underlying t = some (.map kt e)) (ty : TypeId) :
 ∃ w',(Builtin.clear_ #[t] ty #[.map (some b)]).run P w = .ok (.tuple #[]) w' ∧ MapK lit P kt w' b (fun _=>none) 0 ∧ Keep (fun i=>i = b) w w' ∧ w'.heap.size = w.heap.size:=by
 obtain ⟨D,⟨es,clock,hb,F,hs,rfl⟩,hn,hv⟩:=h
 refine ⟨ChangeMaps.setBlock w b (.map #[] clock),?_,⟨.map [],⟨#[],clock,ChangeMaps.heap_setBlock_same hb _,⟨by simp,MapKept.stamped_empty clock,by simp⟩,Nat.zero_le _,rfl⟩,rfl,fun _=>rfl⟩,?_,by simp [ChangeMaps.setBlock]⟩
 ·simp [Builtin.clear_,run_underlying ht,MapKept.run_getObj_map hb,MapKept.run_setObj_map _ hb,Result.andThen,ChangeMaps.setBlock]
 ·exact ⟨rfl,rfl,rfl,by simp [ChangeMaps.setBlock],fun i _ hi=>ChangeMaps.heap_setBlock_other hb _ hi⟩
end

/-! ### at the operation, for the walk -/
section
variable {κ : Type} {lit : κ → Lit} {enc : κ → Value} {ok : κ → Prop} {P : Program} {kt : TypeId} {b n : Nat} {f : κ → Option Value}
variable (w : World) {ops : Array Oper} {rest : List Oper} {o : Oper} {a : Act} {Q : Exit → Act → World → Prop}
theorem wpList_mapK_store (hg : o.guard = none) (m x v : Operand) (t : TypeId) (hop : o.op = Op.mapUpdate t m x v) (e : TypeId)
 (E : KeyEnc P kt lit enc ok) (ht : P.underlying t = some (.map kt e)) (hm : a.eval m = .map (some b)) (h : MapK lit P kt w b f n) (hn : n < maxLen)
 (k : κ) (hw : ok k) (val : Value) (hx : a.eval x = enc k) (hv : a.eval v = val)
 (hK : ∀ w',MapK lit P kt w' b (updK f k val) (if (f k).isSome = true then n else n + 1) → Keep (fun i=>i = b) w w' → w'.heap.size = w.heap.size → wpList P ops Q rest (a.put o.dst undef) w') :
 wpList P ops Q (o :: rest) a w:=by
 refine wpList_plain hg fun K' hK'=>?_
 obtain ⟨w',hrun,r1,r2,r3⟩:=h.store E ht hn k hw val
 unfold Oper.wp
 simp [execOp,hop,hm,hx,hv,hrun,Result.andThen]
 exact hK' _ _ (hK w' r1 r2 r3)
theorem wpList_mapK_delete (hg : o.guard = none) (m x : Operand) (t : TypeId) (hop : o.op = Op.call { callee:=Callee.builtin Builtin.delete,args:=#[m,x],argTypes:=#[t,kt] }) (e : TypeId)
 (E : KeyEnc P kt lit enc ok) (ht : P.underlying t = some (.map kt e)) (hm : a.eval m = .map (some b)) (h : MapK lit P kt w b f n)
 (k : κ) (hw : ok k) (hx : a.eval x = enc k)
 (hK : ∀ w',MapK lit P kt w' b (remK f k) (if (f k).isSome = true then n - 1 else n) → Keep (fun i=>i = b) w w' → w'.heap.size = w.heap.size → wpList P ops Q rest (a.put o.dst (.tuple #[])) w') :
 wpList P ops Q (o :: rest) a w:=by
 refine wpList_plain hg fun K' hK'=>?_
 obtain ⟨w',hrun,r1,r2,r3⟩:=h.drop E ht k hw o.type
 unfold Oper.wp
 simp [execOp,hop,resolve,invoke,builtin,hm,hx,hrun,Result.andThen]
 exact hK' _ _ (hK w' r1 r2 r3)
theorem wpList_mapK_clear (hg : o.guard = none) (m : Operand) (t : TypeId) (hop : o.op = Op.call { callee:=Callee.builtin Builtin.clear,args:=#[m],argTypes:=#[t] }) (e : TypeId)
 (ht : P.underlying t = some (.map kt e)) (hm : a.eval m = .map (some b)) (h : MapK lit P kt w b f n)
 (hK : ∀ w',MapK lit P kt w' b (fun _=>none) 0 → Keep (fun i=>i = b) w w' → w'.heap.size = w.heap.size → wpList P ops Q rest (a.put o.dst (.tuple #[])) w') :
 wpList P ops Q (o :: rest) a w:=by
 refine wpList_plain hg fun K' hK'=>?_
 obtain ⟨w',hrun,r1,r2,r3⟩:=h.clear ht o.type
 unfold Oper.wp
 simp [execOp,hop,resolve,invoke,builtin,hm,hrun,Result.andThen]
 exact hK' _ _ (hK w' r1 r2 r3)
end

end Go.Proofs.YtpboohfofodeeaaGreatDoor
/- Maps keyed by struct Slot: how a slot is keyed (conditions: none). -/
namespace Go.Proofs.YtpboohfofodeeaaGreatDoor
open Go.RowKit Go.Maps Go.WideShapes
theorem slot_law : WideMaps.KeyLaw Tryz.prog 96:=deep_law (m:=2) (by omega) (by kernel_rfl) (by kernel_rfl) (by kernel_rfl)
theorem slot_keyed : Keyed Tryz.prog 96:=Keyed.of_law slot_law
def litSl (k : Int × ByteArray) : Lit:=.string (keyBytes [.int .i64 k.1,.string k.2.data.toList])
def encSl (k : Int × ByteArray) : Value:=slotV k.1 k.2
def okSl (k : Int × ByteArray) : Prop:=(Lit.int .i64 k.1).wf = true ∧ k.2.size ≤ maxLen
theorem slot_key (k : Int × ByteArray) (h : okSl k) : keyOf Tryz.prog 96 (encSl k) = some (litSl k):=by
 obtain ⟨d,n⟩:=k
 obtain ⟨h1,h2⟩:=h
 have hu:=Tryz.underlying96
 unfold keyOf encSl slotV litSl
 rw [hu]
 have ht : Tryz.prog.keyType 96 = true:=by kernel_rfl
 have hi:=Tryz.underlying3
 have hs:=Tryz.underlying9
 have hc : Tryz.prog.cellsOf 96 = 2:=by kernel_rfl
 have hc1 : Tryz.prog.cellsOf 3 = 1:=by kernel_rfl
 have hc2 : Tryz.prog.cellsOf 9 = 1:=by kernel_rfl
 obtain ⟨m,hm⟩ : ∃ m,Tryz.prog.types.size = m + 1:=⟨Tryz.prog.types.size - 1,by
  have : 0 < Tryz.prog.types.size:=by decide +kernel
  omega⟩
 simp only at h1 h2
 have hl : Tryz.prog.keyLits (Tryz.prog.types.size + 1) 96 [.int .i64 d,.string n] = some [.int .i64 d,.string n.data.toList]:=by
  rw [hm]
  simp [Program.keyLits,hu,hi,hs,hc,hc1,hc2,h1,h2]
 have hf : Value.formed Tryz.prog 96 (.agg #[.int .i64 d,.string n]) = true:=by
  simp [Value.formed,hu,hc]
 have hcl : (Value.agg #[.int .i64 d,.string n]).cells.toList = [.int .i64 d,.string n]:=rfl
 show (if (Tryz.prog.keyType 96 && Value.formed Tryz.prog 96 (.agg #[.int .i64 d,.string n])) = true then (Tryz.prog.keyLits (Tryz.prog.types.size + 1) 96 (Value.agg #[.int .i64 d,.string n]).cells.toList).map (fun ls=>Lit.string (keyBytes ls)) else none) = _
 rw [if_pos (by rw [ht,hf]; rfl),hcl,hl]
 rfl
theorem slot_inj (x y : Int × ByteArray) (hx : okSl x) (hy : okSl y) (h : litSl x = litSl y) : x = y:=by
 have h1:=slot_key x hx
 have h2:=slot_key y hy
 rw [h] at h1
 have h3:=slot_keyed.inj h1 h2
 obtain ⟨a,b⟩:=x
 obtain ⟨c,d⟩:=y
 unfold encSl slotV at h3
 simp at h3
 obtain ⟨rfl,rfl⟩:=h3
 rfl
/-- A slot that can be a key. -/
def SlotK : Type:={k : Int × ByteArray // okSl k}
theorem slot_enc : KeyEnc Tryz.prog 96 (fun k : SlotK=>litSl k.1) (fun k=>encSl k.1) (fun _=>True):=
 ⟨slot_keyed,fun x y h=>Subtype.ext (slot_inj x.1 y.1 x.2 y.2 h),fun _=>trivial,fun k _=>slot_key k.1 k.2⟩
end Go.Proofs.YtpboohfofodeeaaGreatDoor
/- state: Is (conditions: none). -/
namespace Go.Proofs.YtpboohfofodeeaaGreatDoor
open Go.RowKit Go.Maps
/-- What of a node stands in its block. -/
def nodeC (n : ND) (ps : Value) (at_ : Nat) : Array Value:=#[.int .i64 n.kind,.int .i64 n.mode,.int .i64 n.time,.int .i64 n.links,.int .i64 n.size,.string n.target,ps,.map (some at_)]
def NodesM (w : World) (b : Nat) (F : Int → Option Value) (n : Nat) : Prop:=MapI Tryz.prog 3 w b F n
theorem nodes_look {w : World} {b n : Nat} {F : Int → Option Value} (h : NodesM w b F n) (k : Int) (hk : (Lit.int .i64 k).wf = true) :
 (Instr.lookup 88 (.map (some b)) (.int .i64 k) false).run Tryz.prog w = .ok ((F k).getD (.pointer none)) w:=by
 have hz : (zeroValue 87).run Tryz.prog w = .ok (.pointer none) w:=by simp [go_sem]
 have:=MapI.look h Tryz.underlying3 Tryz.underlying88 hz false k hk
 simpa using this
set_option maxRecDepth 100000 in
theorem st_is {w : World} {f b n : Nat} {next : Int} {nm : Value} {F : Int → Option Value} (ino kind : Int) (hf : Blk w f 91 #[.int .i64 next,.map (some b),nm]) (hm : NodesM w b F n) (hk : (Lit.int .i64 ino).wf = true)
 (kd : Option Int) (hn : (F ino = none ∧ kd = none) ∨ ∃ (g : Nat) (nd : ND) (ps : Value) (at_ : Nat),F ino = some (.pointer (some ⟨g,0,none⟩)) ∧ Blk w g 135 (nodeC nd ps at_) ∧ kd = some nd.kind) :
 Calls Tryz.prog 99 #[.pointer (some ⟨f,0,none⟩),.int .i64 ino,.int .i64 kind] w fun e w'=>e = .returned (.bool (kd == some kind)) ∧ w' = w:=by
 have hl:=nodes_look hm ino hk
 have c1 : w.cell? ⟨f,1,none⟩ = some (.map (some b)):=hf.cell 1
 clear hm hf
 rcases hn with ⟨hn,rfl⟩ | ⟨g,nd,ps,at_,hn,hb,rfl⟩
 ·rw [hn] at hl
  go_enter Tryz.func99,Tryz.ntmps99
  go_wp2
  go_ret
  exact ⟨by first | rfl | simp,rfl⟩
 ·rw [hn] at hl
  have d0 : w.cell? ⟨g,0,none⟩ = some (.int .i64 nd.kind):=hb.cell 0
  clear hb
  go_enter Tryz.func99,Tryz.ntmps99
  go_wp2
  go_ret
  exact ⟨by first | rfl | simp,rfl⟩
end Go.Proofs.YtpboohfofodeeaaGreatDoor
/- 'for k, v := range m' over MapK and MapI (conditions: none). -/
namespace Go.Proofs.YtpboohfofodeeaaGreatDoor
open Go.RowKit Go.Maps Go.WideShapes
/-- A range over an int-keyed map under way: r the iterator, left: which keys are still to come. -/
def RngI (P : Program) (kt : TypeId) (w : World) (b r : Nat) (f : Int → Option Value) (n : Nat) (left : Int → Bool) (cnt : Nat) : Prop:=
 ∃ D left',w.ranges P kt Rv b r n D left' cnt ∧ Maps.size D = n ∧ (∀ k,valAt D k = f k) ∧ ∀ k,left' (.int .i64 k) = left k
section
variable {P : Program} {kt : TypeId} {w w' : World} {b r n cnt : Nat} {f : Int → Option Value} {left : Int → Bool}
theorem RngI.map (h : RngI P kt w b r f n left cnt) : MapI P kt w b f n:=by
 obtain ⟨D,left',h1,h2,h3,_⟩:=h
 exact ⟨D,h1.owns,h2,h3⟩
theorem RngI.left_eq (h : RngI P kt w b r f n left cnt) : w.rangeLeft b r = cnt:=by
 obtain ⟨D,left',h1,_⟩:=h
 exact h1.left_eq
theorem MapI.range_ (h : MapI P kt w b f n) (hk : P.underlying kt = some (.int .i64)) {t e : TypeId} (ht : P.underlying t = some (.map kt e)) :
 ∃ w',(Instr.range t (.map (some b))).run P w = .ok (.pointer (some ⟨w.heap.size,0,none⟩)) w' ∧ RngI P kt w' b w.heap.size f n (fun k=>(f k).isSome) n ∧ w.grownBy w' none ∧ w'.heap.size = w.heap.size + 1:=by
 obtain ⟨D,h1,h2,h3⟩:=h
 obtain ⟨w',e1,e2,e3,e4⟩:=h1.range (int_keyed hk) ht
 exact ⟨w',e1,⟨D,_,by rw [h2] at e2; exact e2,h2,h3,fun k=>by show _ = (f k).isSome; rw [← h3 k]; exact (isSome_valAt h1 hk k).symm⟩,e3,e4⟩
theorem RngI.next_ (h : RngI P kt w b r f n left cnt) (hk : P.underlying kt = some (.int .i64)) (ty : TypeId) :
 (cnt = 0 ∧ (∀ k,left k = false) ∧ (Instr.next (.pointer (some ⟨r,0,none⟩)) false ty).run P w = .ok (.tuple #[.bool false]) w) ∨
 ∃ (k : Int) (v : Value) (w' : World) (cnt' : Nat),left k = true ∧ f k = some v ∧ (Lit.int .i64 k).wf = true ∧ (Instr.next (.pointer (some ⟨r,0,none⟩)) false ty).run P w = .ok (.tuple #[.bool true,.int .i64 k,v]) w' ∧
  RngI P kt w' b r f n (fun x=>left x && !(decide (x = k))) cnt' ∧ cnt' < cnt ∧ w.grownBy w' (some r) ∧ w'.heap.size = w.heap.size ∧ (Instr.entry (.pointer (some ⟨r,0,none⟩))).run P w' = .ok (.tuple #[.int .i64 k,v]) w':=by
 obtain ⟨D,left',h1,h2,h3,h4⟩:=h
 rcases h1.next (int_keyed hk) ty with ⟨a1,a2,a3⟩ | ⟨key,v,kl,y,w',cnt',a1,a2,a3,a4,a5,a6,a7,a8,a9,a10⟩
 ·exact .inl ⟨a1,fun k=>by rw [← h4 k]; exact a2 _,a3⟩
 ·obtain ⟨k,rfl,rfl,hwf⟩:=Maps.keyOf_int_inv hk a1
  refine .inr ⟨k,v,w',cnt',by rw [← h4 k]; exact a2,?_,hwf,a5,⟨D,_,a6,h2,h3,fun x=>?_⟩,a7,a8,a9,a10⟩
  ·rw [← h3 k]
   have hh : Maps.has D (.int .i64 k) = true:=Maps.has_true_of_atKey a4
   unfold Rv at a3
   cases a3
   unfold valAt
   rw [if_pos hh,a4]
  ·simp only [h4 x]
   congr 1
   by_cases e : x = k
   ·subst e
    rw [WideAt.sameKey_self (isKeyInt x)]; simp
   ·have : (Lit.int .i64 x).sameKey (.int .i64 k) = false:=by
     cases hs : (Lit.int .i64 x).sameKey (.int .i64 k)
     ·rfl
     ·exact absurd (by have:=WideAt.sameKey_eq hs; injection this) e
    simp [this,e]
end
end Go.Proofs.YtpboohfofodeeaaGreatDoor
