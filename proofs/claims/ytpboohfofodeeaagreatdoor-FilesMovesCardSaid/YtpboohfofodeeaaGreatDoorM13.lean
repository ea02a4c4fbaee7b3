/- slices.Grow, slices.Concat at slices of texts (conditions: none). -/
import Derived.Test.YtpboohfofodeeaaGreatDoorM05
import Derived.Test.YtpboohfofodeeaaGreatDoorM11
import Derived.Lib.AppendZerosOnto
import Derived.Test.YtpboohfofodeeaaGreatDoorM12
namespace Go.Proofs.YtpboohfofodeeaaGreatDoor
open Go.RowKit Go.Maps
theorem info_text : (Tryz.prog.info? 9).map (fun i=>(i.zero,i.size,i.bytes)) = some (some (.string ⟨#[]⟩),1,16):=by kernel_rfl
theorem RdV.reads {w : World} {A : Option Addr} {n : Nat} {xs : List Value} (h : RdV w A n xs) : Reads w w.heap.size 1 A n xs:=by
 refine ⟨by rw [h.1]; omega,fun hn=>?_⟩
 obtain ⟨ad,rfl,hc⟩:=h.2 hn
 have hl : 0 < xs.length:=by have:=h.1; omega
 have h0:=hc 0 _ (List.getElem?_eq_getElem hl)
 refine ⟨ad,rfl,?_,hc⟩
 have:=World.block_lt_of_cell? w _ h0
 rwa [block_of_add] at this
theorem Reads.rdv {w : World} {B n : Nat} {A : Option Addr} {xs : List Value} (h : Reads w B 1 A n xs) : RdV w A n xs:=
 ⟨by have:=h.1; omega,fun hn=>by obtain ⟨ad,e,_,hc⟩:=h.2 hn; exact ⟨ad,e,hc⟩⟩
theorem own_grown {w : World} {cs : Array Value} {G : Nat} (hs : cs.size = G) (hG : G ≤ maxLen) : (w.drew.alloc (.cells cs 9)).ownsRow w.heap.size 9 1 (.slice (some ⟨w.heap.size,0,none⟩) 0 G) 0 []:=
 ⟨rfl,.inr ⟨w.heap.size,G,cs,rfl,Nat.le_refl _,Array.getElem?_push_size,Nat.zero_le _,hG,by omega,by simp⟩⟩
set_option maxRecDepth 100000 in
theorem sl_grow (w : World) (n : Nat) (hn : n ≤ 1048576) : Calls Tryz.prog 177 #[.slice none 0 0,.int .i64 n] w fun e w'=>
 ∃ A q,e = .returned (.slice A 0 q) ∧ w'.ownsRow w.heap.size 9 1 (.slice A 0 q) 0 [] ∧ Below w.heap.size w w':=by
 obtain ⟨i0,hi,hz0,hz1,hz2⟩:=info_parts info_text
 have h2 : IntKind.i64.wrap ((n : Int)) = (n : Int):=by rw [IntKind.wrap_i64]; omega
 have h1 : ¬ ((n : Int) < 0):=by omega
 rcases Nat.eq_zero_or_pos n with h0 | h0
 ·subst h0
  go_enter Tryz.func177,Tryz.ntmps177
  go_wp2
  go_ret
  exact ⟨none,0,rfl,World.ownsRow_nil _ _ _ _,Below.refl _ _⟩
 ·have h4 : (n : Int) > 0:=by omega
  have hold : (Builtin.firstCells i0.size 0 (.slice none 0 0)).run Tryz.prog w.drew = .ok ([] : List Value).toArray w.drew:=run_firstCells_none w.drew i0.size 0 0 0
  have hrz : ∀ ty,(Builtin.append_ #[31,3] ty #[.slice none 0 0,.int .i64 n]).run Tryz.prog w =
   .ok (.slice (some ⟨w.heap.size,0,none⟩) n (grownCap w n 0 9)) (w.drew.alloc (.cells (([] : List Value).toArray ++ Builtin.zeroCells (Value.string ⟨#[]⟩).cells n ++ Builtin.zeroCells (Value.string ⟨#[]⟩).cells (grownCap w n 0 9 - n)) 9)):=fun ty=>by
   have h:=Lib.run_append_grow_zeros w 31 3 ty 9 i0 (.string ⟨#[]⟩) .i64 .i64 Tryz.underlying31 Tryz.underlying3 hi hz0 none 0 0 [] hold n (by omega) (by rw [hz1]; omega) (by omega) (by omega)
    (by rw [hz2]; omega) (by rw [Nat.zero_add]; exact growslice_fits (by omega) (by rw [hz2]; omega))
   rw [Nat.zero_add] at h
   exact h
  have hGn : n ≤ grownCap w n 0 9:=grownCap_ge w _ _ _
  have hG63:=grownCap_le_maxLen w n 0 9 (by unfold maxLen; omega)
  obtain ⟨G,hG⟩ : ∃ G,G = grownCap w n 0 9:=⟨_,rfl⟩
  rw [← hG] at hrz hGn hG63
  have HG:=Lib.hid hG63
  have hG64 : G ≤ 9223372036854775807:=by unfold maxLen at hG63; omega
  obtain ⟨cs,hcs⟩ : ∃ cs,cs = (([] : List Value).toArray ++ Builtin.zeroCells (Value.string ⟨#[]⟩).cells n ++ Builtin.zeroCells (Value.string ⟨#[]⟩).cells (G - n)):=⟨_,rfl⟩
  rw [← hcs] at hrz
  have hsz : cs.size = G:=by rw [hcs]; simp [Builtin.zeroCells,Value.cells]; omega
  have HSZ:=Lib.hid hsz
  clear hold hG hcs hG63 hsz
  go_enter Tryz.func177,Tryz.ntmps177
  go_wp2_with (at_builtin; refine Lib.wpList_append_run _ rfl _ _ _ _ rfl _ _ rfl rfl _ _ (hrz _) ?_)
  all_goals go_ret
  exact ⟨_,_,rfl,own_grown HSZ.out HG.out,(Below.refl _ _).drew.alloc (Nat.le_refl _) _⟩

def catN (n1 n2 k : Nat) : Nat:=if k = 0 then 0 else if k = 1 then n1 else n1 + n2
def catL (x1 x2 : List Value) (k : Nat) : List Value:=if k = 0 then [] else if k = 1 then x1 else x1 ++ x2
set_option maxRecDepth 100000 in
theorem sl_concat {w : World} {r n1 c1 n2 c2 : Nat} {A1 A2 : Option Addr} {x1 x2 : List Value} (h0 : w.cell? ⟨r,0,none⟩ = some (.slice A1 n1 c1)) (h1 : w.cell? ⟨r,1,none⟩ = some (.slice A2 n2 c2))
 (hR1 : RdV w A1 n1 x1) (hR2 : RdV w A2 n2 x2) (ho1 : ∀ u ∈ x1,u.oneCell' = true) (ho2 : ∀ u ∈ x2,u.oneCell' = true) (hs : n1 + n2 ≤ 1048576) :
 Calls Tryz.prog 105 #[.slice (some ⟨r,0,none⟩) 2 2] w fun e w'=>
  (∃ A q,e = .returned (.slice A (n1 + n2) q) ∧ RdV w' A (n1 + n2) (x1 ++ x2) ∧ w'.ownsRow w.heap.size 9 1 (.slice A (n1 + n2) q) (n1 + n2) (x1 ++ x2)) ∧ Below w.heap.size w w':=by
 obtain ⟨i0,hi,hz0,hz1,hz2⟩:=info_parts info_text
 have HR1:=Lib.hid hR1
 have HR2:=Lib.hid hR2
 have HO1:=Lib.hid ho1
 have HO2:=Lib.hid ho2
 clear hR1 hR2 ho1 ho2
 have e1 : wrap64 ((0 : Int) + (n1 : Int)) = (n1 : Int):=by unfold wrap64; omega
 have e2 : wrap64 ((n1 : Int) + (n2 : Int)) = ((n1 + n2 : Nat) : Int):=by unfold wrap64; omega
 have f1 : ¬ ((n1 : Int) < 0):=by omega
 have f2 : ¬ (((n1 + n2 : Nat) : Int) < 0):=by omega
 go_enter Tryz.func105,Tryz.ntmps105
 go_wp2
 go_loopw [3,11] (fun s i wr=>∃ k : Nat,k ≤ 2 ∧ i = .int .i64 k ∧ s = .int .i64 (catN n1 n2 k) ∧ w = wr) (fun _ i _=>2 - (intOf i).toNat)
 case atStart=>exact ⟨0,by omega,rfl,rfl,rfl⟩
 case round=>
  obtain ⟨k,hk,rfl,rfl,rfl⟩:=hrel
  obtain rfl | rfl | rfl : k = 0 ∨ k = 1 ∨ k = 2:=by omega
  ·rw [show ((catN n1 n2 0 : Nat) : Int) = 0 from rfl]
   go_wp2
   go_roundw
   ·exact ⟨1,by omega,rfl,rfl,trivial⟩
   ·decide
  ·rw [show catN n1 n2 1 = n1 from rfl]
   go_wp2
   go_roundw
   ·exact ⟨2,by omega,rfl,rfl,trivial⟩
   ·decide
  ·rw [show catN n1 n2 2 = n1 + n2 from rfl]
   go_wp2_with (go_at_call 177; refine (sl_grow _ (n1 + n2) hs).mono ?_; rintro e wg ⟨A,q,rfl,hown,hbg⟩; have HOWN:=Lib.hid hown; have HBG:=Lib.hid hbg; clear hown hbg)
   go_loopw [6,27] (fun s i wr2=>∃ k : Nat,k ≤ 2 ∧ i = .int .i64 k ∧ Hid (wr2.ownsRow w.heap.size 9 1 s (catN n1 n2 k) (catL x1 x2 k)) ∧ Hid (Below w.heap.size w wr2)) (fun _ i _=>2 - (intOf i).toNat)
   case atStart=>exact ⟨0,by omega,rfl,Lib.hid HOWN.out,Lib.hid HBG.out⟩
   case round=>
    obtain ⟨k,hk,rfl,HOWN,HB⟩:=hrel
    obtain ⟨A,q,rfl⟩:=own_slice HOWN.out
    obtain rfl | rfl | rfl : k = 0 ∨ k = 1 ∨ k = 2:=by omega
    ·replace HOWN : Hid (World.ownsRow wr w.heap.size 9 1 (.slice A 0 q) 0 []):=HOWN
     have g0:=keepc' HB.out h0
     have HRx:=Lib.hid (HR1.out.reads.below HB.out)
     rw [show catN n1 n2 0 = 0 from rfl]
     clear h0 h1
     go_wp2_with (first
      |(at_builtin
        refine wpList_append_any _ rfl _ _ _ rfl w.heap.size 9 i0 (.string ⟨#[]⟩) 1 16 Tryz.underlying31 hi hz0 hz1 hz2 rfl (by decide) (.slice A (0) q) (0) ([]) rfl
         HOWN.out w.heap.size A1 n1 c1 x1 rfl (HRx.out) HO1.out (by unfold maxLen; omega) (by omega) HB.out.size ?_
        intro v1 w1 hown1 hg1 hat1
        have hb1:=Lib.hid (HB.out.grown hg1 (HB.out.size) (fun k hk=>(HOWN.out.lt k hk).1))
        have HO1':=Lib.hid (by first | exact hown1 | (rw [Nat.zero_add,List.nil_append] at hown1; exact hown1) : w1.ownsRow w.heap.size 9 1 v1 (catN n1 n2 1) (catL x1 x2 1))
        clear hown1 hg1 hat1))
     go_roundw
     ·exact ⟨1,by omega,rfl,HO1',hb1⟩
     ·decide
    ·replace HOWN : Hid (World.ownsRow wr w.heap.size 9 1 (.slice A n1 q) n1 x1):=HOWN
     have g1:=keepc' HB.out h1
     have HRx:=Lib.hid (HR2.out.reads.below HB.out)
     rw [show catN n1 n2 1 = n1 from rfl]
     clear h0 h1
     go_wp2_with (first
      |(at_builtin
        refine wpList_append_any _ rfl _ _ _ rfl w.heap.size 9 i0 (.string ⟨#[]⟩) 1 16 Tryz.underlying31 hi hz0 hz1 hz2 rfl (by decide) (.slice A (n1) q) (n1) (x1) rfl
         HOWN.out w.heap.size A2 n2 c2 x2 rfl (HRx.out) HO2.out (by unfold maxLen; omega) (by omega) HB.out.size ?_
        intro v1 w1 hown1 hg1 hat1
        have hb1:=Lib.hid (HB.out.grown hg1 (HB.out.size) (fun k hk=>(HOWN.out.lt k hk).1))
        have HO1':=Lib.hid (by first | exact hown1 | (rw [Nat.zero_add,List.nil_append] at hown1; exact hown1) : w1.ownsRow w.heap.size 9 1 v1 (catN n1 n2 2) (catL x1 x2 2))
        clear hown1 hg1 hat1))
     go_roundw
     ·exact ⟨2,by omega,rfl,HO1',hb1⟩
     ·decide
    ·replace HOWN : Hid (World.ownsRow wr w.heap.size 9 1 (.slice A (n1 + n2) q) (n1 + n2) (x1 ++ x2)):=HOWN
     rw [show catN n1 n2 2 = n1 + n2 from rfl]
     clear h0 h1
     go_wp2
     go_ret
     exact ⟨⟨A,q,rfl,(Reads.of_own HOWN.out).rdv,HOWN.out⟩,HB.out⟩
#print axioms sl_concat
end Go.Proofs.YtpboohfofodeeaaGreatDoor
/- state: Open (conditions: none). -/
namespace Go.Proofs.YtpboohfofodeeaaGreatDoor
open Go.RowKit Go.Maps
/-- A list of items, as it is read. -/
def RdI (w : World) (A : Option Addr) (n : Nat) (l : List (ByteArray × ByteArray)) : Prop:=l.length = n ∧ (0 < n → ∃ g o : Nat,A = some ⟨g,o,none⟩ ∧ ∀ j x,l[j]? = some x → w.cell? ⟨g,o + j * 2,none⟩ = some (.string x.1) ∧ w.cell? ⟨g,o + j * 2 + 1,none⟩ = some (.string x.2))
theorem RdI.below {w w' : World} {A : Option Addr} {n : Nat} {l : List (ByteArray × ByteArray)} {B : Nat} (h : RdI w A n l) (hB : w.heap.size ≤ B) (hb : Below B w w') : RdI w' A n l:=⟨h.1,fun hn=>by
 obtain ⟨g,o,rfl,hc⟩:=h.2 hn
 exact ⟨g,o,rfl,fun j x hx=>⟨keepc' (hb.mono hB) (hc j x hx).1,keepc' (hb.mono hB) (hc j x hx).2⟩⟩⟩
theorem RdI.at_ {w : World} {A : Option Addr} {n : Nat} {l : List (ByteArray × ByteArray)} (h : RdI w A n l) {k : Nat} (hk : k < n) : ∃ (g o : Nat) (hl : k < l.length),A = some ⟨g,o,none⟩ ∧ w.cell? ⟨g,o + k * 2,none⟩ = some (.string l[k].1) ∧ w.cell? ⟨g,o + k * 2 + 1,none⟩ = some (.string l[k].2):=by
 obtain ⟨g,o,rfl,hc⟩:=h.2 (by omega)
 have hl : k < l.length:=by have:=h.1; omega
 exact ⟨g,o,hl,rfl,hc k l[k] (List.getElem?_eq_getElem hl)⟩
theorem bytesLess_iff : ∀ a b : List UInt8,Op.bytesLess a b = true ↔ Lib.compareBytes a b < 0
 | [],[]=>by simp [Op.bytesLess,Lib.compareBytes]
 | [],_ :: _=>by simp [Op.bytesLess,Lib.compareBytes]
 | _ :: _,[]=>by simp [Op.bytesLess,Lib.compareBytes]
 | x :: s,y :: t=>by
  have ih:=bytesLess_iff s t
  simp only [Op.bytesLess,Lib.compareBytes]
  rcases u8_tri x y with h | h | h
  ·simp [h]
  ·subst h; simp [ih]
  ·have h2 : ¬ x < y:=UInt8.lt_asymm h
   have h3 : ¬ x = y:=fun e=>by subst e; exact UInt8.lt_irrefl _ h
   simp [h,h2,h3]
theorem btLt_less (a b : ByteArray) : Op.bytesLess a.toList b.toList = true ↔ btLt a b:=by
 rw [toList_eq,toList_eq,bytesLess_iff]; rfl
def fs0 : FS:=⟨0,fun _=>none,fun _=>none⟩
/-- Items taken one behind the other, their keys rising. -/
noncomputable def takeL (fs : FS) : Option ByteArray → List (ByteArray × ByteArray) → Option FS
 | _,[]=>some fs
 | prev,x :: t=>open Classical in if (∃ p,prev = some p ∧ ¬ btLt p x.1) then none else match itS fs x.1 x.2 with
  | none=>none
  | some fs'=>takeL fs' (some x.1) t
def prevK (l : List (ByteArray × ByteArray)) (j : Nat) : Option ByteArray:=if j = 0 then none else (l[j - 1]?).map (·.1)
def OpenEnds (w : World) (l : List (ByteArray × ByteArray)) (e : Ending) (w' : World) : Prop:=
 Below w.heap.size w w' ∧ ((∃ f b m own fs,e = .returned (.tuple #[Pa f,.bool true]) ∧ takeL fs0 none l = some fs ∧ RightFS fs ∧ FlsT w.heap.size l.length w' f b m own fs) ∨ (e = .returned (.tuple #[.pointer none,.bool false]) ∧ ¬ ∃ fs,takeL fs0 none l = some fs ∧ RightFS fs))
def namesOk (fs : FS) : Prop:=∀ s i,fs.G s = some i → s.1.2.size ≤ 255
theorem parseK_nm {k : ByteArray} {s : SlotK} (h : parseK k = some (.nm s)) : s.1.2.size ≤ 255:=by
 unfold parseK at h
 by_cases hK : isKey k
 ·rw [dif_pos hK] at h
  have hp:=(key_parts hK).2.2
  injection h with h
  split at h
  ·cases h
  ·split at h
   ·cases h
   ·split at h
    ·injection h with h
     rw [← h]; exact hp
    ·split at h <;> cases h
 ·rw [dif_neg hK] at h; cases h
theorem itS_names {fs fs' : FS} {k v : ByteArray} (h : itS fs k v = some fs') (hn : namesOk fs) : namesOk fs':=by
 unfold itS at h
 cases hp : parseK k with
 | none=>rw [hp] at h; cases h
 | some q=>
  rw [hp] at h
  cases q with
  | nxt=>simp only at h; split at h <;> cases h; exact hn
  | nd ino=>simp only at h; split at h <;> cases h; exact hn
  | nm s=>
   simp only at h; split at h <;> cases h
   intro s' i hs
   have hs : updK fs.G s (rawNum v).1 s' = some i:=hs
   unfold updK at hs
   by_cases e : s' = s
   ·rw [e]; exact parseK_nm hp
   ·rw [if_neg e] at hs; exact hn s' i hs
  | pc ino ix=>simp only at h; split at h <;> cases h; exact hn
  | xa ino name=>
   simp only at h; split at h
   ·cases h
   ·split at h <;> cases h; exact hn
theorem takeL_cons_bad {fs : FS} {prev : Option ByteArray} {x : ByteArray × ByteArray} {t : List (ByteArray × ByteArray)} (h : ∃ p,prev = some p ∧ ¬ btLt p x.1) : takeL fs prev (x :: t) = none:=by
 unfold takeL
 rw [if_pos h]
theorem takeL_cons_none {fs : FS} {prev : Option ByteArray} {x : ByteArray × ByteArray} {t : List (ByteArray × ByteArray)} (h : itS fs x.1 x.2 = none) : takeL fs prev (x :: t) = none:=by
 unfold takeL
 split
 ·rfl
 ·rw [h]
theorem takeL_cons_some {fs fs' : FS} {prev : Option ByteArray} {x : ByteArray × ByteArray} {t : List (ByteArray × ByteArray)} (h1 : ¬ ∃ p,prev = some p ∧ ¬ btLt p x.1) (h : itS fs x.1 x.2 = some fs') : takeL fs prev (x :: t) = takeL fs' (some x.1) t:=by
 rw [takeL,if_neg h1,h]
theorem fls_start (w : World) : FlsT w.heap.size 0 (((w.alloc (.map #[] 0)).alloc (.map #[] 0)).alloc (.cells #[.int .i64 0,.map (some w.heap.size),.map (some (w.heap.size + 1))] 91)) (w.heap.size + 2) w.heap.size (w.heap.size + 1) (fun _=>⟨0,0,.slice none 0 0⟩) fs0:=by
 have e1 : (w.alloc (.map #[] 0)).heap.size = w.heap.size + 1:=by simp
 have e2 : ((w.alloc (.map #[] 0)).alloc (.map #[] 0)).heap.size = w.heap.size + 2:=by simp
 have hb:=Blk.new ((w.alloc (.map #[] 0)).alloc (.map #[] 0)) 91 #[.int .i64 0,.map (some w.heap.size),.map (some (w.heap.size + 1))]
 rw [e2] at hb
 have hm:=MapK.made (fun k : SlotK=>litSl k.1) Tryz.prog 96 (w.alloc (.map #[] 0))
 rw [e1] at hm
 refine ⟨hb,⟨0,Nat.le_refl _,(((MapI.made Tryz.prog 3 w).alloc _).alloc _).congr (fun _=>rfl)⟩,⟨0,Nat.le_refl _,(hm.alloc _).congr (fun _=>rfl)⟩,fun k a h=>(by cases h),fun j k x y _ h=>(by cases h),⟨by omega,fun k a h=>(by cases h)⟩,by omega,fun s i h=>(by cases h)⟩
/-- What the loop of Open goes by. -/
structure OpAt (w : World) (l : List (ByteArray × ByteArray)) (f b m j : Nat) (wr : World) (own : Int → Own) (fs : FS) : Prop where
 fls : FlsT w.heap.size j wr f b m own fs
 bl : Below w.heap.size w wr
 eq : takeL fs0 none l = takeL fs (prevK l j) (l.drop j)
 nm : namesOk fs
set_option maxRecDepth 100000 in
set_option maxHeartbeats 4000000 in
theorem st_open {w : World} {A : Option Addr} {n q : Nat} (l : List (ByteArray × ByteArray)) (hR : RdI w A n l) (hn : n < 1099511627776) (hz : ∀ x ∈ l,x.1.size ≤ 140737488351232 ∧ x.2.size ≤ 140737488351232) :
 Calls Tryz.prog 28 #[.slice A n q] w (OpenEnds w l):=by
 have hmm:=@run_makeMap Tryz.prog
 have h0:=fls_start w
 have hb0 : Below w.heap.size w (((w.alloc (.map #[] 0)).alloc (.map #[] 0)).alloc (.cells #[.int .i64 0,.map (some w.heap.size),.map (some (w.heap.size + 1))] 91)):=(((Below.refl w.heap.size w).alloc (Nat.le_refl _) _).alloc (by simp) _).alloc (by simp; omega) _
 have hA0:=Lib.hid (OpAt.mk (l:=l) h0 hb0 (by simp [prevK]) (fun s i h=>by cases h))
 have HR:=Lib.hid hR
 have HZ:=Lib.hid hz
 clear hR hz h0 hb0
 go_enter Tryz.func28,Tryz.ntmps28
 go_wp2
 go_loopw [5,6,15] (fun _ _ i wr=>∃ (j : Nat) (own : Int → Own) (fs : FS),i = .int .i64 j ∧ j ≤ n ∧ OpAt w l (w.heap.size + 2) w.heap.size (w.heap.size + 1) j wr own fs) (fun _ _ i _=>n - (intOf i).toNat)
 case atStart=>exact ⟨0,_,_,rfl,Nat.zero_le _,hA0.out⟩
 case round=>
  obtain ⟨j,own,fs,rfl,hj,hO⟩:=hrel
  by_cases hjn : j < n
  ·have hjn' : (j : Int) < n:=by omega
   have hRj:=HR.out.below (Nat.le_refl _) hO.bl
   obtain ⟨g,o,hjl,rfl,d0,d1⟩:=hRj.at_ hjn
   have hd : l.drop j = l[j] :: l.drop (j + 1):=List.drop_eq_getElem_cons hjl
   have hxm : l[j] ∈ l:=List.getElem_mem hjl
   have hpk : prevK l (j + 1) = some l[j].1:=by simp [prevK,List.getElem?_eq_getElem hjl]
   have hpp : 0 < j → ∃ hp : j - 1 < l.length,prevK l j = some l[j - 1].1 ∧ wr.cell? ⟨g,o + (j - 1) * 2,none⟩ = some (.string l[j - 1].1):=fun h=>by
    have hp : j - 1 < l.length:=by omega
    obtain ⟨g',o',_,e,c0,_⟩:=hRj.at_ (show j - 1 < n by omega)
    cases e
    exact ⟨hp,by simp [prevK,show j ≠ 0 by omega,List.getElem?_eq_getElem hp],c0⟩
   clear hRj
   generalize hx : l[j] = x at *
   by_cases hbad : ∃ p,prevK l j = some p ∧ ¬ btLt p x.1
   ·have hj0 : 0 < j:=by
     rcases Nat.eq_zero_or_pos j with h | h
     ·subst h
      obtain ⟨p,hp,_⟩:=hbad
      simp [prevK] at hp
     ·exact h
    obtain ⟨hp,hpe,c0⟩:=hpp hj0
    generalize l[j - 1].1 = p at *
    have hless : Op.bytesLess p.toList x.1.toList = false:=by
     obtain ⟨p',hp',hn'⟩:=hbad
     rw [hpe] at hp'
     cases hp'
     cases hb : Op.bytesLess p.toList x.1.toList with
     | false=>rfl
     | true=>exact absurd ((btLt_less _ _).1 hb) hn'
    have hend : Hid (∀ w',Below w.heap.size w w' → OpenEnds w l (.returned (.tuple #[.pointer none,.bool false])) w'):=Lib.hid fun w' hb=>⟨hb,.inr ⟨rfl,by
     rintro ⟨fs',h1,_⟩
     rw [hO.eq,hd,takeL_cons_bad hbad] at h1
     cases h1⟩⟩
    obtain ⟨j',rfl⟩ : ∃ j',j = j' + 1:=⟨j - 1,by omega⟩
    rw [show j' + 1 - 1 = j' by omega] at c0
    have hjn2 : (j' : Int) < n:=by omega
    have hjs : ((j' + 1 : Nat) : Int) - 1 = (j' : Int):=by omega
    have hjd : decide ((0 : Int) < ((j' + 1 : Nat) : Int)) = true:=by simp
    have hbW : Below w.heap.size w (wr.alloc (.cells #[.string x.1,.string x.2] 59)):=hO.bl.alloc hO.bl.size _
    have hXB:=Blk.new wr 59 #[.string x.1,.string x.2]
    have b0 : (wr.alloc (.cells #[.string x.1,.string x.2] 59)).cell? ⟨wr.heap.size,0,none⟩ = some (.string x.1):=hXB.cell 0
    have c0' : (wr.alloc (.cells #[.string x.1,.string x.2] 59)).cell? ⟨g,o + j' * 2,none⟩ = some (.string p):=keepc' ((Below.refl wr.heap.size wr).alloc (Nat.le_refl _) _) c0
    have HBW:=Lib.hid hbW
    clear hO hbW hXB hbad hpp hd hpk
    go_upto_region 5 with fail
    go_quiet (fail)
    go_wp2
    go_ret2
    exact hend.out _ (below_drewN HBW.out nq)
   ·have hbW : Below w.heap.size w (wr.alloc (.cells #[.string x.1,.string x.2] 59)):=hO.bl.alloc hO.bl.size _
    have hFW:=hO.fls.below ((Below.refl wr.heap.size wr).alloc (Nat.le_refl _) (.cells #[.string x.1,.string x.2] 59))
    have hXB:=Blk.new wr 59 #[.string x.1,.string x.2]
    have b0 : (wr.alloc (.cells #[.string x.1,.string x.2] 59)).cell? ⟨wr.heap.size,0,none⟩ = some (.string x.1):=hXB.cell 0
    have b1 : (wr.alloc (.cells #[.string x.1,.string x.2] 59)).cell? ⟨wr.heap.size,1,none⟩ = some (.string x.2):=hXB.cell 1
    have hzx:=HZ.out x hxm
    have hFWd : FlsT w.heap.size j ((wr.alloc (.cells #[.string x.1,.string x.2] 59)).drew) (w.heap.size + 2) w.heap.size (w.heap.size + 1) own fs:=hFW.below ((Below.refl _ _).drew)
    have hT:=Lib.hid (st_take hFWd x.1 x.2 hzx.1 hzx.2 (Nat.le_trans hO.bl.size (by simp [World.drew])) (by omega))
    have HBW:=Lib.hid hbW
    have HFA:=Lib.hid (fun fs' (h : itS fs x.1 x.2 = some fs')=>show takeL fs0 none l = takeL fs' (prevK l (j + 1)) (l.drop (j + 1)) from by rw [hO.eq,hd,takeL_cons_some hbad h,hpk])
    have HNO:=Lib.hid (fun (h : itS fs x.1 x.2 = none) w' (hb : Below w.heap.size w w')=>show OpenEnds w l (.returned (.tuple #[.pointer none,.bool false])) w' from ⟨hb,.inr ⟨rfl,by
     rintro ⟨fs',h1,_⟩
     rw [hO.eq,hd,takeL_cons_none h] at h1
     cases h1⟩⟩)
    have HNM:=Lib.hid hO.nm
    rcases Nat.eq_zero_or_pos j with hj0 | hj0
    ·subst hj0
     simp only [Nat.zero_mul,Nat.add_zero] at d0 d1
     clear hO hbW hXB hbad hpp hd hpk hFW hFWd
     go_upto_region 5 with fail
     generalize wr.alloc (.cells #[.string x.1,.string x.2] 59) = wq at *
     refine wp_region_quiet_tail 16 (by kernel_rfl) (by kernel_rfl) ?_
     simp only [List.take_succ_cons,List.take_zero,List.drop_succ_cons,List.drop_zero]
     repeat (go_big_quiet_step (fail))
     refine wpQuiet_nil ?_
     go_wp2_with (
      go_at_call 45
      refine hT.out.mono ?_
      rintro e w5 ⟨hb5,hcase⟩
      have HB5 : Hid (Below w.heap.size w w5):=Lib.hid ((HBW.out.drew).trans hb5)
      clear hb5
      rcases hcase with ⟨fs',own',hi,rfl,hf5⟩ | ⟨hi,rfl⟩)
     ·have HF5:=Lib.hid hf5
      have HI:=Lib.hid hi
      clear hf5 hi
      go_roundw
      case rel=>exact ⟨1,own',fs',rfl,by omega,⟨HF5.out,HB5.out,HFA.out _ HI.out,itS_names HI.out HNM.out⟩⟩
      case measure=>simp [intOf]; omega
     ·have hno:=Lib.hid (HNO.out hi _ HB5.out)
      clear hi
      go_ret2
      exact hno.out
    ·obtain ⟨hp,hpe,c0⟩:=hpp hj0
     generalize l[j - 1].1 = p at *
     have hless : Op.bytesLess p.toList x.1.toList = true:=(btLt_less _ _).2 (Classical.byContradiction fun h=>hbad ⟨p,hpe,h⟩)
     obtain ⟨j',rfl⟩ : ∃ j',j = j' + 1:=⟨j - 1,by omega⟩
     rw [show j' + 1 - 1 = j' by omega] at c0
     have hjn2 : (j' : Int) < n:=by omega
     have hjs : ((j' + 1 : Nat) : Int) - 1 = (j' : Int):=by omega
     have hjd : decide ((0 : Int) < ((j' + 1 : Nat) : Int)) = true:=by simp
     have c0' : (wr.alloc (.cells #[.string x.1,.string x.2] 59)).cell? ⟨g,o + j' * 2,none⟩ = some (.string p):=keepc' ((Below.refl wr.heap.size wr).alloc (Nat.le_refl _) _) c0
     clear hO hbW hXB hbad hpp hd hpk hFW hFWd
     go_upto_region 5 with fail
     generalize wr.alloc (.cells #[.string x.1,.string x.2] 59) = wq at *
     refine wp_region_quiet_tail 16 (by kernel_rfl) (by kernel_rfl) ?_
     simp only [List.take_succ_cons,List.take_zero,List.drop_succ_cons,List.drop_zero]
     repeat (go_big_quiet_step (fail))
     refine wpQuiet_nil ?_
     go_wp2_with (
      go_at_call 45
      refine hT.out.mono ?_
      rintro e w5 ⟨hb5,hcase⟩
      have HB5 : Hid (Below w.heap.size w w5):=Lib.hid ((HBW.out.drew).trans hb5)
      clear hb5
      rcases hcase with ⟨fs',own',hi,rfl,hf5⟩ | ⟨hi,rfl⟩)
     ·have HF5:=Lib.hid hf5
      have HI:=Lib.hid hi
      clear hf5 hi
      go_roundw
      case rel=>exact ⟨j' + 1 + 1,own',fs',by first | rfl | (congr 1; omega),by omega,⟨HF5.out,HB5.out,HFA.out _ HI.out,itS_names HI.out HNM.out⟩⟩
      case measure=>simp [intOf]; omega
     ·have hno:=Lib.hid (HNO.out hi _ HB5.out)
      clear hi
      go_ret2
      exact hno.out
  ·have hall : l.drop j = []:=List.drop_eq_nil_of_le (by have:=HR.out.1; omega)
   have hjn2 : j = l.length:=by have:=HR.out.1; omega
   have hnl:=HR.out.1
   subst hnl
   subst hjn2
   have hjn3 : ¬ l.length < l.length:=by omega
   clear hjn
   have htk : takeL fs0 none l = some fs:=by rw [hO.eq,hall,takeL]
   have HTK:=Lib.hid htk
   have HNM:=Lib.hid hO.nm
   have HF:=Lib.hid hO.fls
   have HB:=Lib.hid hO.bl
   clear hO hall
   go_wp2
   have hFn:=Lib.hid (show FlsT w.heap.size l.length wr (w.heap.size + 1 + 1) w.heap.size (w.heap.size + 1) own fs from HF.out)
   have hlen : l.length ≤ 1099511627776:=by omega
   have hCB:=Blk.new wr 25 #[Value.func (Fn.func 46) #[Pa (w.heap.size + 1 + 1)] #[],Value.func (Fn.func 47) #[Pa (w.heap.size + 1 + 1)] #[],Value.func (Fn.func 48) #[Pa (w.heap.size + 1 + 1)] #[],Value.func (Fn.func 49) #[Pa (w.heap.size + 1 + 1)] #[]]
   have hBa : Below wr.heap.size wr (wr.alloc (.cells #[Value.func (Fn.func 46) #[Pa (w.heap.size + 1 + 1)] #[],Value.func (Fn.func 47) #[Pa (w.heap.size + 1 + 1)] #[],Value.func (Fn.func 48) #[Pa (w.heap.size + 1 + 1)] #[],Value.func (Fn.func 49) #[Pa (w.heap.size + 1 + 1)] #[]] 25)):=(Below.refl _ _).alloc (Nat.le_refl _) _
   have hFa:=hFn.out.below hBa
   have HFA:=Lib.hid hFa
   have HBA:=Lib.hid (bl_t HB.out hBa)
   obtain ⟨e0,e1,e2,e3⟩ : (wr.alloc (.cells #[Value.func (Fn.func 46) #[Pa (w.heap.size + 1 + 1)] #[],Value.func (Fn.func 47) #[Pa (w.heap.size + 1 + 1)] #[],Value.func (Fn.func 48) #[Pa (w.heap.size + 1 + 1)] #[],Value.func (Fn.func 49) #[Pa (w.heap.size + 1 + 1)] #[]] 25)).cell? ⟨wr.heap.size,0,none⟩ = some (Value.func (Fn.func 46) #[Pa (w.heap.size + 1 + 1)] #[]) ∧ (wr.alloc (.cells #[Value.func (Fn.func 46) #[Pa (w.heap.size + 1 + 1)] #[],Value.func (Fn.func 47) #[Pa (w.heap.size + 1 + 1)] #[],Value.func (Fn.func 48) #[Pa (w.heap.size + 1 + 1)] #[],Value.func (Fn.func 49) #[Pa (w.heap.size + 1 + 1)] #[]] 25)).cell? ⟨wr.heap.size,1,none⟩ = some (Value.func (Fn.func 47) #[Pa (w.heap.size + 1 + 1)] #[]) ∧ (wr.alloc (.cells #[Value.func (Fn.func 46) #[Pa (w.heap.size + 1 + 1)] #[],Value.func (Fn.func 47) #[Pa (w.heap.size + 1 + 1)] #[],Value.func (Fn.func 48) #[Pa (w.heap.size + 1 + 1)] #[],Value.func (Fn.func 49) #[Pa (w.heap.size + 1 + 1)] #[]] 25)).cell? ⟨wr.heap.size,2,none⟩ = some (Value.func (Fn.func 48) #[Pa (w.heap.size + 1 + 1)] #[]) ∧ (wr.alloc (.cells #[Value.func (Fn.func 46) #[Pa (w.heap.size + 1 + 1)] #[],Value.func (Fn.func 47) #[Pa (w.heap.size + 1 + 1)] #[],Value.func (Fn.func 48) #[Pa (w.heap.size + 1 + 1)] #[],Value.func (Fn.func 49) #[Pa (w.heap.size + 1 + 1)] #[]] 25)).cell? ⟨wr.heap.size,3,none⟩ = some (Value.func (Fn.func 49) #[Pa (w.heap.size + 1 + 1)] #[]):=⟨hCB.cell 0,hCB.cell 1,hCB.cell 2,hCB.cell 3⟩
   clear hCB hBa hFa hFn
   generalize wr.alloc (.cells #[Value.func (Fn.func 46) #[Pa (w.heap.size + 1 + 1)] #[],Value.func (Fn.func 47) #[Pa (w.heap.size + 1 + 1)] #[],Value.func (Fn.func 48) #[Pa (w.heap.size + 1 + 1)] #[],Value.func (Fn.func 49) #[Pa (w.heap.size + 1 + 1)] #[]] 25) = wa at *
   generalize wr.heap.size = ra at *
   go_loopw [8,50] (fun _ i wr=>∃ k : Nat,k ≤ 4 ∧ i = .int .i64 k ∧ Below wa.heap.size wa wr ∧ Hid (0 < k → rootedS fs) ∧ Hid (1 < k → namedS fs) ∧ Hid (2 < k → linkedS fs) ∧ Hid (3 < k → filledP fs.N)) (fun _ i _=>4 - (intOf i).toNat)
   case atStart=>exact ⟨0,by omega,rfl,Below.refl _ _,Lib.hid (by omega),Lib.hid (by omega),Lib.hid (by omega),Lib.hid (by omega)⟩
   case round=>
    obtain ⟨k,hk,rfl,hb,p0,p1,p2,p3⟩:=hrel
    have hFr:=HFA.out.below hb
    have hBr:=Lib.hid (bl_t HBA.out hb)
    rcases (by omega : k = 0 ∨ k = 1 ∨ k = 2 ∨ k = 3 ∨ k = 4) with rfl | rfl | rfl | rfl | rfl
    ·have ek:=keepc' hb e0
     have hC:=Lib.hid (rule_rooted hFr)
     clear e0 e1 e2 e3 hFr
     go_wp2_with (
      go_at_call 46
      refine hC.out.mono ?_
      rintro e w7 ⟨⟨r,rfl,hr⟩,hb7⟩
      have HR7:=Lib.hid hr
      have HB7:=Lib.hid (bl_t hBr.out hb7)
      have HB8:=Lib.hid (bl_t hb hb7)
      clear hr hb7
      rcases Bool.eq_false_or_eq_true r with hrt | hrt <;> subst hrt)
     ·go_roundw
      case rel=>
       have hr:=HR7.out
       exact ⟨1,by omega,by first | rfl | trivial,HB8.out,Lib.hid fun _=>hr.1 (by first | rfl | trivial),Lib.hid fun h=>by omega,Lib.hid fun h=>by omega,Lib.hid fun h=>by omega⟩
      case measure=>simp [intOf]
     ·have hno : Hid (OpenEnds w l (.returned (.tuple #[.pointer none,.bool false])) w7):=Lib.hid ⟨HB7.out,.inr ⟨rfl,by
       rintro ⟨fs',h1,h⟩
       rw [HTK.out] at h1
       cases h1
       have:=HR7.out.2 h.rooted
       cases this⟩⟩
      go_ret2
      exact hno.out
    ·have ek:=keepc' hb e1
     have hC:=Lib.hid (rule_named hFr HNM.out)
     clear e0 e1 e2 e3 hFr
     go_wp2_with (
      go_at_call 47
      refine hC.out.mono ?_
      rintro e w7 ⟨⟨r,rfl,hr⟩,hb7⟩
      have HR7:=Lib.hid hr
      have HB7:=Lib.hid (bl_t hBr.out hb7)
      have HB8:=Lib.hid (bl_t hb hb7)
      clear hr hb7
      rcases Bool.eq_false_or_eq_true r with hrt | hrt <;> subst hrt)
     ·go_roundw
      case rel=>
       have hr:=HR7.out
       exact ⟨2,by omega,by first | rfl | trivial,HB8.out,Lib.hid fun _=>p0.out (by omega),Lib.hid fun _=>hr.1 (by first | rfl | trivial),Lib.hid fun h=>by omega,Lib.hid fun h=>by omega⟩
      case measure=>simp [intOf]
     ·have hno : Hid (OpenEnds w l (.returned (.tuple #[.pointer none,.bool false])) w7):=Lib.hid ⟨HB7.out,.inr ⟨rfl,by
       rintro ⟨fs',h1,h⟩
       rw [HTK.out] at h1
       cases h1
       have:=HR7.out.2 h.named
       cases this⟩⟩
      go_ret2
      exact hno.out
    ·have ek:=keepc' hb e2
     have hC:=Lib.hid (rule_linked hFr HNM.out hlen)
     clear e0 e1 e2 e3 hFr
     go_wp2_with (
      go_at_call 48
      refine hC.out.mono ?_
      rintro e w7 ⟨⟨r,rfl,hr⟩,hb7⟩
      have HR7:=Lib.hid hr
      have HB7:=Lib.hid (bl_t hBr.out hb7)
      have HB8:=Lib.hid (bl_t hb hb7)
      clear hr hb7
      rcases Bool.eq_false_or_eq_true r with hrt | hrt <;> subst hrt)
     ·go_roundw
      case rel=>
       have hr:=HR7.out
       exact ⟨3,by omega,by first | rfl | trivial,HB8.out,Lib.hid fun _=>p0.out (by omega),Lib.hid fun _=>p1.out (by omega),Lib.hid fun _=>hr.1 (by first | rfl | trivial),Lib.hid fun h=>by omega⟩
      case measure=>simp [intOf]
     ·have hno : Hid (OpenEnds w l (.returned (.tuple #[.pointer none,.bool false])) w7):=Lib.hid ⟨HB7.out,.inr ⟨rfl,by
       rintro ⟨fs',h1,h⟩
       rw [HTK.out] at h1
       cases h1
       have:=HR7.out.2 h.linked
       cases this⟩⟩
      go_ret2
      exact hno.out
    ·have ek:=keepc' hb e3
     have hC:=Lib.hid (rule_filled hFr hlen)
     clear e0 e1 e2 e3 hFr
     go_wp2_with (
      go_at_call 49
      refine hC.out.mono ?_
      rintro e w7 ⟨⟨r,rfl,hr⟩,hb7⟩
      have HR7:=Lib.hid hr
      have HB7:=Lib.hid (bl_t hBr.out hb7)
      have HB8:=Lib.hid (bl_t hb hb7)
      clear hr hb7
      rcases Bool.eq_false_or_eq_true r with hrt | hrt <;> subst hrt)
     ·go_roundw
      case rel=>
       have hr:=HR7.out
       exact ⟨4,by omega,by first | rfl | trivial,HB8.out,Lib.hid fun _=>p0.out (by omega),Lib.hid fun _=>p1.out (by omega),Lib.hid fun _=>p2.out (by omega),Lib.hid fun _=>hr.1 (by first | rfl | trivial)⟩
      case measure=>simp [intOf]
     ·have hno : Hid (OpenEnds w l (.returned (.tuple #[.pointer none,.bool false])) w7):=Lib.hid ⟨HB7.out,.inr ⟨rfl,by
       rintro ⟨fs',h1,h⟩
       rw [HTK.out] at h1
       cases h1
       have:=HR7.out.2 h.filled
       cases this⟩⟩
      go_ret2
      exact hno.out
    ·have hyes : Hid (OpenEnds w l (.returned (.tuple #[Pa (w.heap.size + 1 + 1),.bool true])) wr):=Lib.hid ⟨hBr.out,.inl ⟨_,_,_,_,fs,rfl,HTK.out,⟨p0.out (by omega),p1.out (by omega),p2.out (by omega),p3.out (by omega)⟩,hFr⟩⟩
     clear hFr e0 e1 e2 e3
     go_wp2
     go_ret2
     exact hyes.out
end Go.Proofs.YtpboohfofodeeaaGreatDoor
/- Files as operations find them, in memory; what items they have (conditions: none). -/
namespace Go.Proofs.YtpboohfofodeeaaGreatDoor
open Go.RowKit Go.Maps
/-- A node in memory. -/
structure NodeO (c : Nat) (w : World) (o : Own) (a : NodeA) : Prop where
 blk : Blk w o.g 135 (nodeC a.nd o.v o.ab)
 row : ∃ A q,o.v = .slice A a.ps.length q ∧ RdP w A a.ps.length a.ps ∧ a.ps.length ≤ q ∧ ∀ g o,A = some ⟨g,o,none⟩ → ∃ cs,Blk w g 111 cs
 few : a.ps.length ≤ c
 att : ∃ an,an ≤ c ∧ MapK litS Tryz.prog 9 w o.ab (atV a.at_) an
/-- Nothing below is written by operations. -/
class Fence where
 lo : Nat
/-- Files in memory, at f: b and m the maps; c bounds how many there are of anything. -/
structure FlsB [Fence] (c : Nat) (w : World) (f b m : Nat) (own : Int → Own) (fs : FS) : Prop where
 blk : Blk w f 91 #[.int .i64 fs.next,.map (some b),.map (some m)]
 nodes : ∃ n,n ≤ c ∧ MapI Tryz.prog 3 w b (fun k=>(fs.N k).map fun _=>ptrG (own k).g) n
 names : ∃ n,n ≤ c ∧ MapK (fun k : SlotK=>litSl k.1) Tryz.prog 96 w m (nmV fs.G) n
 node : ∀ k a,fs.N k = some a → NodeO c w (own k) a
 apart : ∀ j k x y,j ≠ k → fs.N j = some x → fs.N k = some y → (own j).g ≠ (own k).g ∧ (own j).ab ≠ (own k).ab
 ne : b ≠ m ∧ ∀ k a,fs.N k = some a → (own k).ab ≠ b ∧ (own k).ab ≠ m
 wf : ∀ s i,fs.G s = some i → (Lit.int .i64 i).wf = true
 lo : (Fence.lo ≤ f ∧ Fence.lo ≤ b ∧ Fence.lo ≤ m) ∧ ∀ k a,fs.N k = some a → Fence.lo ≤ (own k).g ∧ Fence.lo ≤ (own k).ab
theorem NodeT.toO {base c : Nat} {w : World} {o : Own} {a : NodeA} (h : NodeT base c w o a) : NodeO c w o a:=by
 have hrow:=h.row
 obtain ⟨A,q,hv⟩:=own_slice hrow
 rw [hv] at hrow
 refine ⟨h.blk,⟨A,q,hv,pc_row hrow rfl,own_cap hrow,fun g o' hA=>?_⟩,h.few,h.att⟩
 rcases hrow.2 with ⟨e,_⟩ | ⟨g',cap,cur,e,_,hb,_⟩
 ·injection e with e1 _ _
  rw [e1] at hA
  cases hA
 ·injection e with e1 _ _
  rw [e1] at hA
  cases hA
  exact ⟨cur,hb⟩
theorem FlsT.toB [Fence] {base c : Nat} {w : World} {f b m : Nat} {own : Int → Own} {fs : FS} (h : FlsT base c w f b m own fs) (hl : Fence.lo ≤ base) : FlsB c w f b m own fs:=
 ⟨h.blk,h.nodes,h.names,fun k a e=>(h.node k a e).toO,fun j k x y hjk hj hk=>⟨(h.apart j k x y hjk hj hk).1,(h.apart j k x y hjk hj hk).2.1⟩,h.ne,h.wf,⟨Nat.le_trans hl h.lo.1,Nat.le_trans hl h.lo.2.1,Nat.le_trans hl h.lo.2.2⟩,fun k a e=>⟨Nat.le_trans hl (h.node k a e).lo.1,Nat.le_trans hl (h.node k a e).lo.2⟩⟩
theorem NodeO.keep {S : Nat → Prop} {c : Nat} {w w' : World} {o : Own} {a : NodeA} (h : NodeO c w o a) (hk : Keep S w w') (h1 : ¬ S o.g) (h2 : ¬ S o.ab) (h3 : ∀ g cs,Blk w g 111 cs → ¬ S g) : NodeO c w' o a:=by
 obtain ⟨A,q,hv,hr,hq,hb⟩:=h.row
 obtain ⟨an,x,y⟩:=h.att
 refine ⟨h.blk.keep hk h1,⟨A,q,hv,⟨hr.1,fun hn=>?_⟩,hq,fun g o' hA=>?_⟩,h.few,⟨an,x,y.keep hk h2⟩⟩
 ·obtain ⟨g,o',hA,hc⟩:=hr.2 hn
  obtain ⟨cs,hcs⟩:=hb g o' hA
  exact ⟨g,o',hA,fun j z hz=>⟨hk.cell (hc j z hz).1 (h3 g cs hcs),hk.cell (hc j z hz).2 (h3 g cs hcs)⟩⟩
 ·obtain ⟨cs,hcs⟩:=hb g o' hA
  exact ⟨cs,hcs.keep hk (h3 g cs hcs)⟩
theorem FlsB.below [Fence] {c : Nat} {w w' : World} {f b m : Nat} {own : Int → Own} {fs : FS} (h : FlsB c w f b m own fs) (hb : Below w.heap.size w w') : FlsB c w' f b m own fs:=by
 have hk:=Keep.of_below hb (fun _=>False)
 exact ⟨blk_below h.blk hb,let ⟨n,x,y⟩:=h.nodes; ⟨n,x,y.keep hk (fun h=>h)⟩,let ⟨n,x,y⟩:=h.names; ⟨n,x,y.keep hk (fun h=>h)⟩,fun k a e=>(h.node k a e).keep hk (fun h=>h) (fun h=>h) (fun _ _ _ h=>h),h.apart,h.ne,h.wf,h.lo⟩
/-- A key's text. -/
noncomputable def kkText : KK → ByteArray
 | .nxt=>textS_ 110 0 ⟨#[]⟩ 0
 | .nd ino=>textS_ 105 ino ⟨#[]⟩ 0
 | .nm s=>textS_ 100 s.1.1 s.1.2 0
 | .pc ino ix=>textS_ 112 ino ⟨#[]⟩ ix
 | .xa ino n=>textS_ 120 ino n 0
open Classical in
noncomputable def numV (n : Int) : ByteArray:=if numOk n then fix8 n else ⟨#[]⟩
open Classical in
noncomputable def encV (n : ND) : ByteArray:=if n.right then encS n else ⟨#[]⟩
def inoV (i : Int) : ByteArray:=fix8 (IntKind.u64.wrap i)
/-- What items files have. -/
def HasIt (fs : FS) : KK × ByteArray → Prop
 |(.nxt,v)=>v = numV fs.next
 |(.nm s,v)=>∃ i,fs.G s = some i ∧ v = inoV i
 |(.nd k,v)=>∃ a,fs.N k = some a ∧ v = encV a.nd
 |(.pc k ix,v)=>∃ a,fs.N k = some a ∧ (ix,v) ∈ a.ps
 |(.xa k n,v)=>∃ a,fs.N k = some a ∧ a.at_ n = some v
/-- So few items that a list of them can be made. -/
def SmallFS (fs : FS) : Prop:=∀ R : List (KK × ByteArray),R.Nodup → (∀ q ∈ R,HasIt fs q) → R.length ≤ 1099511627776
noncomputable def itx (q : KK × ByteArray) : ByteArray × ByteArray:=(kkText q.1,q.2)
def itC (x : ByteArray × ByteArray) : List Value:=[.string x.1,.string x.2]
def itCs (l : List (ByteArray × ByteArray)) : List Value:=l.flatMap itC
theorem itCs_snoc (l : List (ByteArray × ByteArray)) (x : ByteArray × ByteArray) : itCs (l ++ [x]) = itCs l ++ itC x:=by simp [itCs]
theorem info_item : (Tryz.prog.info? 59).map (fun i=>(i.zero,i.size,i.bytes)) = some (some (.agg #[.string ⟨#[]⟩,.string ⟨#[]⟩]),2,32):=by kernel_rfl
/-- The list under way: what is in it. -/
structure OutAt (w wr : World) (v : Value) (R : List (KK × ByteArray)) (M : KK × ByteArray → Prop) : Prop where
 own : wr.ownsRow w.heap.size 59 2 v R.length (itCs (R.map itx))
 nodup : R.Nodup
 mem : ∀ q,q ∈ R ↔ M q
theorem OutAt.keep {S : Nat → Prop} {w wr w' : World} {v : Value} {R : List (KK × ByteArray)} {M : KK × ByteArray → Prop} (h : OutAt w wr v R M) (hk : Keep S wr w') (hn : ∀ i,v.ownBlock = some i → ¬ S i) : OutAt w w' v R M:=⟨own_keep h.own hk hn,h.nodup,h.mem⟩
theorem OutAt.below {w wr w' : World} {v : Value} {R : List (KK × ByteArray)} {M : KK × ByteArray → Prop} (h : OutAt w wr v R M) (hb : Below wr.heap.size wr w') : OutAt w w' v R M:=h.keep (Keep.of_below hb (fun _=>False)) (fun _ _ h=>h)
theorem OutAt.snoc {w wr : World} {v : Value} {R : List (KK × ByteArray)} {M : KK × ByteArray → Prop} (q : KK × ByteArray) (hn : R.Nodup) (hm : ∀ q,q ∈ R ↔ M q) (hq : ¬ M q) (ho : wr.ownsRow w.heap.size 59 2 v (R.length + 1) (itCs (R.map itx) ++ itC (itx q))) : OutAt w wr v (R ++ [q]) (fun x=>M x ∨ x = q):=by
 refine ⟨by rw [List.map_append,List.map_singleton,itCs_snoc,List.length_append]; exact ho,List.nodup_append.2 ⟨hn,by simp,fun a ha b hb=>?_⟩,fun x=>by rw [List.mem_append,List.mem_singleton,hm]⟩
 rw [List.mem_singleton] at hb
 subst hb
 rintro rfl
 exact hq ((hm _).1 ha)
theorem OutAt.congr {w wr : World} {v : Value} {R : List (KK × ByteArray)} {M M' : KK × ByteArray → Prop} (h : OutAt w wr v R M) (e : ∀ q,M q ↔ M' q) : OutAt w wr v R M':=⟨h.own,h.nodup,fun q=>(h.mem q).trans (e q)⟩
theorem fix8_of (i : Int) (W : World) : Calls Tryz.prog 62 #[.int .u64 (IntKind.u64.wrap i)] W fun e w'=>e = .returned (.string (inoV i)) ∧ Below W.heap.size W w':=pk_fixed _ W (u64_of i)
/-- What is in the list: the next number; names told of; nodes told of. -/
def MemN (fs : FS) (P : SlotK → Prop) (q : KK × ByteArray) : Prop:=q = (.nxt,numV fs.next) ∨ ∃ s i,fs.G s = some i ∧ P s ∧ q = (.nm s,inoV i)
def NodeIt (k : Int) (a : NodeA) (q : KK × ByteArray) : Prop:=q = (.nd k,encV a.nd) ∨ (∃ p ∈ a.ps,q = (.pc k p.1,p.2)) ∨ ∃ s v,a.at_ s = some v ∧ q = (.xa k s,v)
def MemK (fs : FS) (P : Int → Prop) (q : KK × ByteArray) : Prop:=MemN fs (fun _=>True) q ∨ ∃ k a,fs.N k = some a ∧ P k ∧ NodeIt k a q
theorem memK_has (fs : FS) (q : KK × ByteArray) : MemK fs (fun _=>True) q ↔ HasIt fs q:=by
 obtain ⟨k,v⟩:=q
 unfold MemK MemN NodeIt
 cases k with
 | nxt=>simp [HasIt]
 | nd ino=>
  simp only [HasIt]
  constructor
  ·rintro ((h | ⟨s,i,_,_,h⟩) | ⟨k,a,h1,_,h | ⟨p,_,h⟩ | ⟨s,v',_,h⟩⟩) <;> cases h
   exact ⟨a,h1,rfl⟩
  ·rintro ⟨a,h1,rfl⟩
   exact .inr ⟨ino,a,h1,trivial,.inl rfl⟩
 | nm s=>
  simp only [HasIt]
  constructor
  ·rintro ((h | ⟨s,i,h1,_,h⟩) | ⟨k,a,h1,_,h | ⟨p,_,h⟩ | ⟨s,v',_,h⟩⟩) <;> cases h
   exact ⟨i,h1,rfl⟩
  ·rintro ⟨i,h1,rfl⟩
   exact .inl (.inr ⟨s,i,h1,trivial,rfl⟩)
 | pc ino ix=>
  simp only [HasIt]
  constructor
  ·rintro ((h | ⟨s,i,_,_,h⟩) | ⟨k,a,h1,_,h | ⟨p,hp,h⟩ | ⟨s,v',_,h⟩⟩) <;> cases h
   exact ⟨a,h1,hp⟩
  ·rintro ⟨a,h1,h2⟩
   exact .inr ⟨ino,a,h1,trivial,.inr (.inl ⟨(ix,v),h2,rfl⟩)⟩
 | xa ino n=>
  simp only [HasIt]
  constructor
  ·rintro ((h | ⟨s,i,_,_,h⟩) | ⟨k,a,h1,_,h | ⟨p,_,h⟩ | ⟨s,v',h2,h⟩⟩) <;> cases h
   exact ⟨a,h1,h2⟩
  ·rintro ⟨a,h1,h2⟩
   exact .inr ⟨ino,a,h1,trivial,.inr (.inr ⟨n,v,h2,rfl⟩)⟩
theorem memN_has {fs : FS} {P : SlotK → Prop} {q : KK × ByteArray} (h : MemN fs P q) : HasIt fs q:=(memK_has fs q).1 (.inl (h.imp id fun ⟨s,i,a,_,b⟩=>⟨s,i,a,trivial,b⟩))
theorem memK_has' {fs : FS} {P : Int → Prop} {q : KK × ByteArray} (h : MemK fs P q) : HasIt fs q:=(memK_has fs q).1 (h.imp id fun ⟨k,a,x,_,y⟩=>⟨k,a,x,trivial,y⟩)
theorem nodeIt_has {fs : FS} {k : Int} {a : NodeA} {q : KK × ByteArray} (hk : fs.N k = some a) (h : NodeIt k a q) : HasIt fs q:=(memK_has fs q).1 (.inr ⟨k,a,hk,trivial,h⟩)
end Go.Proofs.YtpboohfofodeeaaGreatDoor
