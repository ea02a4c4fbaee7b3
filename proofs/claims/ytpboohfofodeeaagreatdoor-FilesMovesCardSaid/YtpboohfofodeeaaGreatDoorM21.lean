/- files: list (conditions: none). -/
import Derived.Test.YtpboohfofodeeaaGreatDoorM20
namespace Go.Proofs.YtpboohfofodeeaaGreatDoor
open Go.RowKit Go.Maps
theorem reads_one (w : World) (v : Value) (t : TypeId) : Reads (w.alloc (.cells #[v] t)) (w.heap.size + 1) 1 (some ⟨w.heap.size,0,none⟩) 1 [v]:=
 ⟨rfl,fun _=>⟨_,rfl,Nat.lt_succ_self _,World.news_of_block (heap_alloc_new w _)⟩⟩
theorem left_iff {left : SlotK → Bool} (s : SlotK) {inst : ∀ x : SlotK,Decidable (x = s)} (x : SlotK) : (left x && !(decide (x = s))) = false ↔ left x = false ∨ x = s:=by
 by_cases e : x = s
 ·simp [e]
 ·simp [e]
/-- The names in a Dir, as they were met. -/
structure NamesIn (G : SlotK → Option Int) (dir : Int) (done : SlotK → Prop) (l : List ByteArray) : Prop where
 mem : ∀ n,n ∈ l ↔ ∃ s i,G s = some i ∧ done s ∧ s.1.1 = dir ∧ s.1.2 = n
 nodup : l.Nodup
theorem NamesIn.skip {G : SlotK → Option Int} {dir : Int} {left left2 : SlotK → Bool} {l : List ByteArray} (h : NamesIn G dir (fun s=>left s = false) l) {s : SlotK} (h2 : ∀ x,left2 x = false ↔ left x = false ∨ x = s) (hd : s.1.1 ≠ dir) : NamesIn G dir (fun x=>left2 x = false) l:=
 ⟨fun n=>(h.mem n).trans ⟨fun ⟨x,i,a,b,c,d⟩=>⟨x,i,a,(h2 x).2 (.inl b),c,d⟩,fun ⟨x,i,a,b,c,d⟩=>⟨x,i,a,((h2 x).1 b).resolve_right (fun e=>by subst e; exact hd c),c,d⟩⟩,h.nodup⟩
theorem NamesIn.add {G : SlotK → Option Int} {dir : Int} {left left2 : SlotK → Bool} {l : List ByteArray} (h : NamesIn G dir (fun s=>left s = false) l) {s : SlotK} {i : Int} (h2 : ∀ x,left2 x = false ↔ left x = false ∨ x = s) (hG : G s = some i) (hl : left s = true) (hd : s.1.1 = dir) : NamesIn G dir (fun x=>left2 x = false) (l ++ [s.1.2]):=by
 refine ⟨fun n=>?_,?_⟩
 ·rw [List.mem_append,List.mem_singleton,h.mem n]
  constructor
  ·rintro (⟨x,j,a,b,c,d⟩ | rfl)
   ·exact ⟨x,j,a,(h2 x).2 (.inl b),c,d⟩
   ·exact ⟨s,i,hG,(h2 s).2 (.inr rfl),hd,rfl⟩
  ·rintro ⟨x,j,a,b,c,d⟩
   rcases (h2 x).1 b with b | e
   ·exact .inl ⟨x,j,a,b,c,d⟩
   ·subst e; exact .inr d.symm
 ·rw [List.nodup_append]
  refine ⟨h.nodup,by simp,fun a ha b hb=>?_⟩
  rw [List.mem_singleton.1 hb]
  rintro rfl
  obtain ⟨x,j,_,b,c,d⟩:=(h.mem _).1 ha
  have e : x = s:=Subtype.ext (Prod.ext (c.trans hd.symm) d)
  subst e
  rw [b] at hl
  cases hl
def ListEnds (w : World) (fs : FS) (dir : Int) (e : Ending) (w' : World) : Prop:=∃ A q l,e = .returned (.slice A l.length q) ∧ NamesIn fs.G dir (fun _=>True) l ∧ w'.ownsRow w.heap.size 9 1 (.slice A l.length q) l.length (strV (sortT l))
set_option maxRecDepth 100000 in
set_option maxHeartbeats 4000000 in
theorem fw_list [Fence] {c : Nat} {w : World} {f b m : Nat} {own : Int → Own} {fs : FS} (h : FlsB c w f b m own fs) (dir : Int) (hc : c ≤ 1099511627776) :
 Calls Tryz.prog 117 #[wkV f,.int .i64 dir] w fun e w'=>ListEnds w fs dir e w' ∧ Below w.heap.size w w':=by
 obtain ⟨i0,hi,hz0,hz1,hz2⟩:=info_parts info_text
 have hb0 : Below w.heap.size w (w.alloc (.cells #[Pa f] 78)):=(Below.refl _ _).alloc (Nat.le_refl _) _
 have hF:=h.below hb0
 have d2 : (w.alloc (.cells #[Pa f] 78)).cell? ⟨f,2,none⟩ = some (.map (some m)):=hF.blk.cell 2
 have hW:=Blk.new w 78 #[Pa f]
 have d0 : (w.alloc (.cells #[Pa f] 78)).cell? ⟨w.heap.size,0,none⟩ = some (Pa f):=hW.cell 0
 obtain ⟨n0,x0,y0⟩:=hF.names
 obtain ⟨w1,hrun,hrg,hgr,hs1⟩:=y0.range_ slot_enc Tryz.underlying89
 have hb1 : Below (w.alloc (.cells #[Pa f] 78)).heap.size (w.alloc (.cells #[Pa f] 78)) w1:=(Keep.of_grown hgr (fun _=>False) (fun k hk=>by cases hk)).to_below (Nat.le_refl _) (fun _ h=>h.elim)
 have hm0 : m < w.heap.size:=let ⟨_,_,y⟩:=h.names; let ⟨_,_,ho⟩:=y.obj; lt_of_heap ho
 have e1 : (w.alloc (.cells #[Pa f] 78)).heap.size = w.heap.size + 1:=by simp
 rw [e1] at hrg hs1 hb1
 have HB1:=Lib.hid (hb0.trans (hb1.mono (Nat.le_succ _)))
 have HRG:=Lib.hid hrg
 unfold wkV
 rw [e1] at hrun
 clear h hF hW hb0 hb1 hrg e1 y0 hgr
 go_enter Tryz.func117,Tryz.ntmps117
 go_wp2
 clear hrun d2 d0
 go_loopw [5,6] (fun v _ wr=>∃ left cnt l,RngK (fun k : SlotK=>litSl k.1) Tryz.prog 96 wr m (w.heap.size + 1) (nmV fs.G) n0 left cnt ∧ Below w.heap.size w wr ∧ l.length + cnt ≤ n0 ∧ w1.heap.size ≤ wr.heap.size ∧ Hid (wr.ownsRow w1.heap.size 9 1 v l.length (strV l)) ∧ Hid (NamesIn fs.G dir (fun s=>left s = false) l)) (fun _ _ wr=>wr.rangeLeft m (w.heap.size + 1))
 case atStart=>exact ⟨_,_,[],HRG.out,HB1.out,by simp,Nat.le_refl _,Lib.hid (World.ownsRow_nil _ _ _ _),Lib.hid ⟨fun n=>⟨fun h=>by simp at h,fun ⟨s,i,a,b,_⟩=>by simp [nmV,a] at b⟩,List.nodup_nil⟩⟩
 case round=>
  obtain ⟨left,cnt,l,hrg,hb,hcnt,hsz,HO,HN⟩:=hrel
  obtain ⟨A,q,rfl⟩:=own_slice HO.out
  rcases hrg.next_ slot_enc slot_inv 0 with ⟨h0,hl,hN⟩ | ⟨s,v,w2,cnt',hk,hFs,hN,hrg3,hlt,hg2,hs2,hE⟩
  ·have hS:=Lib.hid (sort_texts HO.out (by omega))
   have hyes : Hid (NamesIn fs.G dir (fun _=>True) l):=Lib.hid ⟨fun n=>(HN.out.mem n).trans ⟨fun ⟨s,i,a,_,b⟩=>⟨s,i,a,trivial,b⟩,fun ⟨s,i,a,_,b⟩=>⟨s,i,a,hl s,b⟩⟩,HN.out.nodup⟩
   have HB:=Lib.hid hb
   clear hrg hb
   go_wp2_with (
    go_at_call 44
    refine hS.out.mono ?_
    rintro e w3 ⟨rfl,ho3,hk3⟩
    have HO3:=Lib.hid (own_base (base':=w.heap.size) ho3 (fun k hk=>Nat.le_trans (by omega) (ho3.lt k hk).1))
    have HB3:=Lib.hid (HB.out.trans (hk3.to_below (B:=w.heap.size) HB.out.size (fun i hi=>by have:=(HO.out.lt i hi).1; omega)))
    clear ho3 hk3)
   go_ret
   exact ⟨⟨A,q,l,rfl,hyes.out,HO3.out⟩,HB3.out⟩
  ·obtain ⟨ino,hGs,rfl⟩:=nmV_some hFs
   have hb2 : Below w.heap.size w w2:=hb.trans ((Keep.of_grown hg2 (fun i=>i = w.heap.size + 1) (fun k hk=>by cases hk; exact .inl rfl)).to_below (hb.size) (fun i h=>by omega))
   have hO2:=own_keep HO.out (Keep.of_grown hg2 (fun i=>i = w.heap.size + 1) (fun k hk=>by cases hk; exact .inl rfl)) (fun k hk e=>by have:=(HO.out.lt k hk).1; omega)
   obtain ⟨d,nm,hsd⟩ : ∃ d nm,s.1 = (d,nm):=⟨s.1.1,s.1.2,rfl⟩
   have hen : encSl s.1 = .agg #[.int .i64 d,.string nm]:=by rw [hsd]; rfl
   simp only [hen] at hN hE
   have hb3:=Lib.hid (hb2.alloc hb2.size (.cells #[.int .i64 d,.string nm] 96))
   have hrg4:=Lib.hid (hrg3.alloc_ (.cells #[.int .i64 d,.string nm] 96))
   have hO4:=Lib.hid (hO2.alloc (.cells #[.int .i64 d,.string nm] 96))
   have hrg0:=Lib.hid hrg
   clear hrg hrg3 hb2 hg2 hO2 HO
   by_cases e : d = dir
   ·subst e
    have hRD : Hid (Reads ((w2.alloc (.cells #[.int .i64 d,.string nm] 96)).alloc (.cells #[.string nm] 9)) (wr.heap.size + 2) 1 (some ⟨wr.heap.size + 1,0,none⟩) 1 [.string nm]):=Lib.hid (by
     have h:=reads_one (w2.alloc (.cells #[.int .i64 d,.string nm] 96)) (.string nm) 9
     have hz : (w2.alloc (.cells #[.int .i64 d,.string nm] 96)).heap.size = wr.heap.size + 1:=by simp [hs2]
     rw [hz] at h
     exact h)
    go_wp2_with (
     at_builtin
     refine wpList_append_any _ rfl _ _ _ rfl w1.heap.size 9 i0 (.string ⟨#[]⟩) 1 16 Tryz.underlying31 hi hz0 hz1 hz2 rfl (by decide) (.slice A l.length q) l.length (strV l) rfl
      (hO4.out.alloc _) (wr.heap.size + 2) (some ⟨wr.heap.size + 1,0,none⟩) 1 1 [.string nm] rfl hRD.out (by simp [Value.oneCell']) (by unfold maxLen; omega) (by omega) (by simp; omega) ?_
     intro v7 w7 hown7 hg7 hat7
     have hk7:=Keep.of_grown hg7 (fun i=>(Value.slice A l.length q).ownBlock = some i) (fun k hk=>.inl hk)
     have HB7:=Lib.hid ((hb3.out.alloc hb3.out.size (.cells #[.string nm] 9)).trans (hk7.to_below (B:=w.heap.size) (Nat.le_trans hb3.out.size (by simp)) (fun i hi=>by have:=(hO4.out.lt i hi).1; omega)))
     have HR7:=Lib.hid ((hrg4.out.alloc_ (.cells #[.string nm] 9)).keep hk7 (fun hi=>by have:=(hO4.out.lt _ hi).1; omega) (fun hi=>by have:=(hO4.out.lt _ hi).1; omega))
     have hs7:=hk7.size
     have HO7:=Lib.hid hown7
     clear hown7 hg7 hat7 hk7)
    go_roundw
    case rel=>exact ⟨_,_,l ++ [nm],HR7.out,HB7.out,by simp only [List.length_append,List.length_singleton]; omega,by have:=hs7; simp at this; omega,Lib.hid (by
     have h:=HO7.out
     rw [show strV l ++ [Value.string nm] = strV (l ++ [nm]) by simp [strV],show l.length + 1 = (l ++ [nm]).length by simp] at h
     exact h),Lib.hid (by
     rw [show nm = s.1.2 by rw [hsd]]
     exact HN.out.add (left_iff s) hGs hk (by rw [hsd]))⟩
    case measure=>rw [HR7.out.left_eq,hrg0.out.left_eq]; exact hlt
   ·have e' : (d == dir) = false:=by simpa using e
    go_wp2
    go_roundw
    case rel=>exact ⟨_,_,l,hrg4.out,hb3.out,by omega,by simp; omega,hO4,Lib.hid (HN.out.skip (s:=s) (left_iff s) (by rw [hsd]; exact e))⟩
    case measure=>rw [hrg4.out.left_eq,hrg0.out.left_eq]; exact hlt
end Go.Proofs.YtpboohfofodeeaaGreatDoor
/- state: New; files: New (conditions: none). -/
namespace Go.Proofs.YtpboohfofodeeaaGreatDoor
open Go.RowKit Go.Maps
/-- The root alone. -/
def rootND : ND:=⟨2,0,0,1,0,⟨#[]⟩⟩
def fsRoot : FS:=⟨2,fun k=>if k = 1 then some ⟨rootND,[],fun _=>none⟩ else none,fun _=>none⟩
def NewEnds [Fence] (w : World) (e : Ending) (w' : World) : Prop:=∃ f b m own,e = .returned (Pa f) ∧ FlsB 1 w' f b m own fsRoot ∧ Below w.heap.size w w'
set_option maxRecDepth 100000 in
set_option maxHeartbeats 2000000 in
theorem st_new [Fence] (w : World) (hl : Fence.lo ≤ w.heap.size) : Calls Tryz.prog 32 #[] w (NewEnds w):=by
 have hmm:=@run_makeMap Tryz.prog
 go_enter Tryz.func32,Tryz.ntmps32
 go_upto_region 2 with fail
 have hA:=MapK.made litS Tryz.prog 9 w
 have hG:=Blk.new (w.alloc (.map #[] 0)) 135 (nodeC rootND (.slice none 0 0) w.heap.size)
 have e1 : (w.alloc (.map #[] 0)).heap.size = w.heap.size + 1:=by simp
 have e2 : ((w.alloc (.map #[] 0)).alloc (.cells (nodeC rootND (.slice none 0 0) w.heap.size) 135)).heap.size = w.heap.size + 2:=by simp
 have hb2 : Below w.heap.size w ((w.alloc (.map #[] 0)).alloc (.cells (nodeC rootND (.slice none 0 0) w.heap.size) 135)):=((Below.refl _ _).alloc (Nat.le_refl _) _).alloc (by simp) _
 replace hA:=hA.alloc (.cells (nodeC rootND (.slice none 0 0) w.heap.size) 135)
 rw [e1] at hG
 change Code.wp _ _ _ _ ((w.alloc (.map #[] 0)).alloc (.cells (nodeC rootND (.slice none 0 0) w.heap.size) 135))
 generalize (w.alloc (.map #[] 0)).alloc (.cells (nodeC rootND (.slice none 0 0) w.heap.size) 135) = w2 at *
 have hB:=MapI.made Tryz.prog 3 w2
 obtain ⟨w4,hrun,hm4,hk4,hs4⟩:=hB.store Tryz.underlying3 Tryz.underlying88 (by decide) 1 (by decide) (ptrG (w.heap.size + 1))
 rw [e2] at hrun hm4 hk4
 have hrun2 : (Instr.mapUpdate 88 (.map (some (w.heap.size + 2))) (.int .i64 1) (.pointer (some ⟨w.heap.size + 1,0,none⟩))).run Tryz.prog (w2.alloc (.map #[] 0)) = .ok () w4:=hrun
 have hs4' : w4.heap.size = w.heap.size + 3:=by rw [hs4]; simp [e2]
 go_wp2
 go_ret
 have hk4' : Keep (fun i=>i = w.heap.size + 2) w2 w4:=(Keep.of_below ((Below.refl w2.heap.size w2).alloc (Nat.le_refl _) (.map #[] 0)) (fun i=>i = w.heap.size + 2)).trans hk4 (fun _ _ h=>h)
 have hG4:=hG.keep hk4' (by omega)
 have hA4:=hA.keep hk4' (by omega)
 have hG6:=(hG4.alloc (.map #[] 0)).alloc (.cells #[.int .i64 2,.map (some (w.heap.size + 2)),.map (some (w.heap.size + 2 + 1))] 91)
 have hA6:=(hA4.alloc (.map #[] 0)).alloc (.cells #[.int .i64 2,.map (some (w.heap.size + 2)),.map (some (w.heap.size + 2 + 1))] 91)
 have hB6:=(hm4.alloc (.map #[] 0)).alloc (.cells #[.int .i64 2,.map (some (w.heap.size + 2)),.map (some (w.heap.size + 2 + 1))] 91)
 have hM:=(MapK.made (fun k : SlotK=>litSl k.1) Tryz.prog 96 w4).alloc (.cells #[.int .i64 2,.map (some (w.heap.size + 2)),.map (some (w.heap.size + 2 + 1))] 91)
 have hF:=Blk.new (w4.alloc (.map #[] 0)) 91 #[.int .i64 2,.map (some (w.heap.size + 2)),.map (some (w.heap.size + 2 + 1))]
 have e5 : (w4.alloc (.map #[] 0)).heap.size = w.heap.size + 2 + 1 + 1:=by simp; omega
 rw [e5] at hF
 rw [hs4'] at hM
 have hb6 : Below w.heap.size w ((w4.alloc (.map #[] 0)).alloc (.cells #[.int .i64 2,.map (some (w.heap.size + 2)),.map (some (w.heap.size + 2 + 1))] 91)):=
  ((hb2.trans (hk4'.to_below (B:=w.heap.size) (by omega) (fun i h=>by omega))).alloc (by omega) _).alloc (by simp; omega) _
 refine ⟨w.heap.size + 2 + 1 + 1,w.heap.size + 2,w.heap.size + 2 + 1,fun _=>⟨w.heap.size + 1,w.heap.size,.slice none 0 0⟩,rfl,⟨hF,⟨1,Nat.le_refl _,?_⟩,⟨0,by omega,hM⟩,fun k a e=>?_,fun j k x y hjk hj hk=>?_,⟨by omega,fun k a e=>⟨by simp only; omega,by simp only; omega⟩⟩,fun s i h=>(by cases h),⟨by omega,by omega,by omega⟩,fun k a e=>⟨by simp only; omega,by simp only; omega⟩⟩,hb6⟩
 ·have e : (fun k=>(fsRoot.N k).map fun _=>ptrG (w.heap.size + 1)) = upd (fun _=>none) 1 (ptrG (w.heap.size + 1)):=by
   funext k
   unfold fsRoot upd
   by_cases h : k = 1
   ·simp [h]
   ·simp [h]
  rw [e]
  exact hB6
 ·have ea : a = ⟨rootND,[],fun _=>none⟩:=by
   unfold fsRoot at e
   simp only at e
   by_cases h : k = 1
   ·rw [if_pos h] at e; injection e with e; exact e.symm
   ·rw [if_neg h] at e; cases e
  subst ea
  exact ⟨hG6,⟨none,0,rfl,⟨rfl,fun h=>by cases h⟩,Nat.le_refl _,fun g o h=>by cases h⟩,Nat.zero_le _,⟨0,Nat.zero_le _,hA6.congr (fun _=>rfl)⟩⟩
 ·have h1 : ∀ k (x : NodeA),fsRoot.N k = some x → k = 1:=fun k x e=>by
   unfold fsRoot at e
   simp only at e
   by_cases h : k = 1
   ·exact h
   ·rw [if_neg h] at e; cases e
  exact absurd ((h1 j x hj).trans (h1 k y hk).symm) hjk
end Go.Proofs.YtpboohfofodeeaaGreatDoor
/- files: New (conditions: none). -/
namespace Go.Proofs.YtpboohfofodeeaaGreatDoor
open Go.RowKit Go.Maps
theorem two_few {α : Type} {x y : α} : ∀ (R : List α),R.Nodup → (∀ q ∈ R,q = x ∨ q = y) → R.length ≤ 2
 | [],_,_=>by simp
 | [_],_,_=>by simp
 | [_,_],_,_=>by simp
 | a :: b :: c :: t,hn,h=>by
  exfalso
  simp only [List.nodup_cons,List.mem_cons,not_or] at hn
  obtain ⟨⟨h1,h2,_⟩,⟨h3,_⟩,_⟩:=hn
  have ha:=h a (by simp)
  have hb:=h b (by simp)
  have hc:=h c (by simp)
  rcases ha with rfl | rfl <;> rcases hb with rfl | rfl <;> rcases hc with rfl | rfl <;> simp_all
theorem root_at {k : Int} {a : NodeA} (e : fsRoot.N k = some a) : k = 1 ∧ a = ⟨rootND,[],fun _=>none⟩:=by
 unfold fsRoot at e
 simp only at e
 by_cases h : k = 1
 ·rw [if_pos h] at e; injection e with e; exact ⟨h,e.symm⟩
 ·rw [if_neg h] at e; cases e
theorem root_ok : ItOk fsRoot:=by
 refine ⟨fun R hR h=>Nat.le_trans (two_few (x:=(.nxt,numV 2)) (y:=(.nd 1,encV rootND)) R hR (fun q hq=>?_)) (by decide),fun k a e=>?_,fun s i h=>(by cases h),fun k a e=>?_,fun k a s v e hs=>?_⟩
 ·have hq:=h q hq
  obtain ⟨kk,v⟩:=q
  cases kk with
  | nxt=>exact .inl (by rw [show v = numV 2 from hq])
  | nd k=>
   obtain ⟨a,e,hv⟩:=hq
   obtain ⟨rfl,rfl⟩:=root_at e
   exact .inr (by rw [hv])
  | nm s=>obtain ⟨i,e,_⟩:=hq; cases e
  | pc k ix=>
   obtain ⟨a,e,hv⟩:=hq
   obtain ⟨rfl,rfl⟩:=root_at e
   simp at hv
  | xa k n=>
   obtain ⟨a,e,hv⟩:=hq
   obtain ⟨rfl,rfl⟩:=root_at e
   cases hv
 ·obtain ⟨rfl,rfl⟩:=root_at e
  simp
 ·obtain ⟨rfl,rfl⟩:=root_at e
  decide
 ·obtain ⟨rfl,rfl⟩:=root_at e
  cases hs
/-- Behind calls that made memory alone. -/
theorem ItemsEnds.after {w w1 w' : World} {fs : FS} {e : Ending} (hb : Below w.heap.size w w1) (h : ItemsEnds w1 fs e w') : ItemsEnds w fs e w':=by
 obtain ⟨h1,v,R,L,h2,h3,h4,h5,h6,h7⟩:=h
 exact ⟨bl_t hb h1,v,R,L,h2,h3,h4,h5,h6,own_base h7 (fun k hk=>Nat.le_trans hb.size (h7.lt k hk).1)⟩
set_option maxRecDepth 100000 in
theorem fl_new (w : World) : Calls Tryz.prog 17 #[] w (ItemsEnds w fsRoot):=by
 obtain ⟨inst,hz⟩ : ∃ F : Fence,F.lo = 0:=⟨⟨0⟩,rfl⟩
 have HS:=Lib.hid (fun w=>st_new w (by rw [hz]; exact Nat.zero_le _))
 clear hz
 go_enter Tryz.func17,Tryz.ntmps17
 go_wp2_with (first
  |(go_at_call 32; refine (HS.out _).mono ?_; rintro e w2 ⟨f,b,m,own,rfl,hF,hb⟩; have HF:=Lib.hid hF; have HB:=Lib.hid hb; clear hF hb)
  |(go_at_call 31; refine (st_items HF.out root_ok).mono ?_; rintro e w3 hI; have HI:=Lib.hid (ItemsEnds.after HB.out hI); obtain ⟨_,v,_,_,rfl,_⟩:=hI))
 go_ret
 exact HI.out
end Go.Proofs.YtpboohfofodeeaaGreatDoor
