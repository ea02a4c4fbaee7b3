/- state: Slots, walked (conditions: slices.SortFunc at slots sorts: 'SortSl'). -/
import Derived.Test.YtpboohfofodeeaaGreatDoorM08
import Derived.Test.YtpboohfofodeeaaGreatDoorM01
import Derived.Shelf.SlSortCmp.WholeK
namespace Go.Proofs.YtpboohfofodeeaaGreatDoor
open Go.RowKit Go.Maps
def nmV (G : SlotK → Option Int) : SlotK → Option Value:=fun s=>(G s).map (Value.int .i64)
def SlotsEnds (w : World) (G : SlotK → Option Int) (e : Ending) (w' : World) : Prop:=∃ (mo no : Nat) (F : Int → Option Value) (H : Int → List SlotK),e = .returned (.map (some mo)) ∧ w.heap.size ≤ mo ∧ MapI Tryz.prog 3 w' mo F no ∧ RowsS w' w.heap.size F H ∧ SlotsP G H ∧ Below w.heap.size w w'
theorem own_ge {w : World} {base n : Nat} {e : TypeId} {size : Nat} {v : Value} {xs : List Value} (h : w.ownsRow base e size v n xs) {i : Nat} (hi : v.ownBlock = some i) : base ≤ i:=by
 rcases h.2 with ⟨rfl,_⟩ | ⟨g,cap,cur,rfl,hb,_⟩
 ·simp [Value.ownBlock] at hi
 ·simp [Value.ownBlock] at hi
  omega
open Classical in
/-- One slot more in its row. -/
theorem sl_more {G : SlotK → Option Int} {left : SlotK → Bool} {H : Int → List SlotK} {cnt cnt' n2 : Nat} {s : SlotK} {ino : Int} (hH : ∀ ino,(H ino).Nodup ∧ (∀ s,s ∈ H ino ↔ G s = some ino ∧ left s = false) ∧ (H ino).length + cnt ≤ n2) (hk : left s = true) (hG : G s = some ino) (hlt : cnt' < cnt) :
 ∀ x,((fun x=>if x = ino then H ino ++ [s] else H x) x).Nodup ∧ (∀ s',s' ∈ (fun x=>if x = ino then H ino ++ [s] else H x) x ↔ G s' = some x ∧ (left s' && !(decide (s' = s))) = false) ∧ ((fun x=>if x = ino then H ino ++ [s] else H x) x).length + cnt' ≤ n2:=by
 intro x
 by_cases hx : x = ino
 ·subst hx
  obtain ⟨h1,h2,h3⟩:=hH x
  simp only [if_true]
  refine ⟨List.nodup_append.2 ⟨h1,by simp,fun a ha b hb=>?_⟩,fun s'=>?_,by simp; omega⟩
  ·simp at hb
   subst hb
   rintro rfl
   have:=((h2 a).1 ha).2
   rw [hk] at this; cases this
  ·rw [List.mem_append,h2 s',List.mem_singleton]
   by_cases e : s' = s
   ·subst e; simp [hG]
   ·simp [e]
 ·obtain ⟨h1,h2,h3⟩:=hH x
  simp only [hx,if_false]
  refine ⟨h1,fun s'=>?_,by omega⟩
  rw [h2 s']
  by_cases e : s' = s
  ·subst e
   rw [hG]
   constructor
   ·rintro ⟨h,_⟩; exact absurd (Option.some.inj h).symm hx
   ·rintro ⟨h,_⟩; exact absurd (Option.some.inj h).symm hx
  ·simp [e]
/-- On the way: some slots are in their rows already. -/
def Sl1 (w : World) (m n2 mo r : Nat) (G : SlotK → Option Int) (wr : World) : Prop:=∃ left cnt F no H,RngK (fun k : SlotK=>litSl k.1) Tryz.prog 96 wr m r (nmV G) n2 left cnt ∧ MapI Tryz.prog 3 wr mo F no ∧ RowsS wr w.heap.size F H ∧ Below w.heap.size w wr ∧
 (∀ ino,(H ino).Nodup ∧ (∀ s,s ∈ H ino ↔ G s = some ino ∧ left s = false) ∧ (H ino).length + cnt ≤ n2) ∧ no + cnt ≤ n2
/-- On the way: some rows are in order already. -/
def Sl2 (w : World) (mo r no : Nat) (F : Int → Option Value) (G : SlotK → Option Int) (wr : World) : Prop:=∃ left cnt H,RngI Tryz.prog 3 wr mo r F no left cnt ∧ RowsS wr w.heap.size F H ∧ Below w.heap.size w wr ∧
 (∀ ino,(H ino).Nodup ∧ (∀ s,s ∈ H ino ↔ G s = some ino) ∧ (left ino = false → (H ino).Pairwise slLt) ∧ (H ino).length ≤ 1099511627776)
theorem slLt_pairwise {l : List SlotK} (h : l.Pairwise fun a b=>¬ slLt b a) (hd : l.Nodup) : l.Pairwise slLt:=by
 refine (List.Pairwise.and h hd).imp ?_
 rintro a b ⟨h1,h2⟩
 rcases slp_tri a.1 b.1 with h | h | h
 ·exact h
 ·exact absurd (Subtype.ext h) h2
 ·exact absurd h h1
theorem info_slot : (Tryz.prog.info? 96).map (fun i=>(i.zero,i.size,i.bytes)) = some (some (.agg #[.int .i64 0,.string ⟨#[]⟩]),2,24):=by kernel_rfl
set_option maxHeartbeats 2000000 in
set_option maxRecDepth 100000 in
theorem st_slots {w : World} {f m n2 : Nat} {G : SlotK → Option Int} (hS : SortSl) (c2 : w.cell? ⟨f,2,none⟩ = some (.map (some m))) (hg : MapK (fun k : SlotK=>litSl k.1) Tryz.prog 96 w m (nmV G) n2)
 (hw : ∀ s i,G s = some i → (Lit.int .i64 i).wf = true) (hn : n2 ≤ 1099511627776) :
 Calls Tryz.prog 37 #[.pointer (some ⟨f,0,none⟩)] w (SlotsEnds w G):=by
 have hm0:=MapI.made Tryz.prog 3 w
 have hg1:=MapK.alloc hg (.map #[] 0)
 have hmlt:=hg.lt
 obtain ⟨w1,hrun,hrg,hgr,hs1⟩:=MapK.range_ hg1 slot_enc Tryz.underlying89
 have hb1 : Below w.heap.size w w1:=((Below.refl _ w).alloc (Nat.le_refl _) (.map #[] 0)).trans (((Keep.of_grown hgr (fun _=>False) (fun k hk=>by cases hk)).to_below (Nat.le_refl _) (fun _ h=>h.elim)).mono (by simp))
 have hm1 : MapI Tryz.prog 3 w1 w.heap.size (fun _=>none) 0:=hm0.keep (Keep.of_grown hgr (fun _=>False) (fun k hk=>by cases hk)) (fun h=>h)
 have e1 : (w.alloc (.map #[] 0)).heap.size = w.heap.size + 1:=by simp
 rw [e1] at hrg
 have c21 : (w.alloc (.map #[] 0)).cell? ⟨f,2,none⟩ = some (.map (some m)):=keepc' ((Below.refl w.heap.size w).alloc (Nat.le_refl _) (.map #[] 0)) c2
 have h0 : Sl1 w m n2 w.heap.size (w.heap.size + 1) G w1:=⟨_,_,_,_,fun _=>[],hrg,hm1,⟨fun k=>.inl ⟨rfl,rfl⟩,fun j k v u _ h=>by cases h⟩,hb1,fun ino=>⟨List.nodup_nil,fun s=>by
  constructor
  ·intro h; cases h
  ·rintro ⟨h1,h2⟩; simp [nmV,h1] at h2,by simp⟩,by simp⟩
 have HW:=Lib.hid hw
 have HS:=Lib.hid hS
 have H0:=Lib.hid h0
 clear hrg hm1 hm0 hg1 hb1 hgr hg hw hS h0
 have hmm:=@run_makeMap Tryz.prog
 obtain ⟨i0,hi,hz0,hz1,hz2⟩:=info_parts info_slot
 go_enter Tryz.func37,Tryz.ntmps37
 go_wp2
 clear hrun c21 hmm e1 hs1
 go_loopw [4,5] (fun _ _ wr=>Sl1 w m n2 w.heap.size (w.heap.size + 1) G wr) (fun _ _ wr=>wr.rangeLeft m (w.heap.size + 1))
 case atStart=>exact H0.out
 case round=>
  obtain ⟨left,cnt,F,no,H,hrg,hmo,hro,hb,hH,hno⟩:=hrel
  rcases hrg.next_ slot_enc slot_inv 0 with ⟨h0,hl,hN⟩ | ⟨s,v,w2,cnt',hk,hF,hN,hrg3,hlt,hg2,hs2,hE⟩
  ·obtain ⟨w3,hrun3,hrg3,hgr3,hs3⟩:=MapI.range_ hmo Tryz.underlying3 Tryz.underlying92
   have hk3 : Below wr.heap.size wr w3:=(Keep.of_grown hgr3 (fun _=>False) (fun k hk=>by cases hk)).to_below (Nat.le_refl _) (fun _ h=>h.elim)
   have hb3 : Below w.heap.size w w3:=hb.trans (hk3.mono hb.size)
   have h2 : Sl2 w w.heap.size wr.heap.size no F G w3:=⟨_,_,H,hrg3,hro.below hk3,hb3,fun x=>⟨(hH x).1,fun s=>by rw [(hH x).2.1 s]; simp [hl s],(fun hx=>by
    rcases hro.at_ x with ⟨_,e⟩ | ⟨z,e,_⟩
    ·rw [e]; exact List.Pairwise.nil
    ·rw [e] at hx; cases hx),by have:=(hH x).2.2; omega⟩⟩
   have H2:=Lib.hid h2
   have hwl : wr.heap.size ≥ w.heap.size:=hb.size
   clear hrg hmo hro hb hH hrg3 hgr3 hk3 hb3 h2 hs3
   go_wp2
   clear hrun3 hN
   generalize wr.heap.size = r2 at *
   go_loopw [7] (fun _ wr=>Sl2 w w.heap.size r2 no F G wr) (fun _ wr=>wr.rangeLeft w.heap.size r2)
   case atStart=>exact H2.out
   case round=>
    obtain ⟨left2,cnt2,Hq,hrg,hro,hb,hH⟩:=hrel
    rcases hrg.next_ Tryz.underlying3 0 with ⟨h02,hl2,hN⟩ | ⟨k,v,w4,cnt3,hk,hF,hwf,hN,hrg4,hlt,hg4,hs4,hE⟩
    ·have hend : Hid (SlotsEnds w G (.returned (.map (some w.heap.size))) wr):=Lib.hid ⟨w.heap.size,no,F,Hq,rfl,Nat.le_refl _,hrg.map,hro,fun x=>⟨(hH x).1,(hH x).2.1,(hH x).2.2.1 (hl2 x)⟩,hb⟩
     clear hrg hro hb hH
     go_wp2
     go_ret
     exact hend.out
    ·obtain ⟨hne,hown⟩ : (Hq k) ≠ [] ∧ wr.ownsRow w.heap.size 96 2 v (Hq k).length (slCs (Hq k)):=by
      rcases hro.at_ k with ⟨a,_⟩ | ⟨z,a,b,c⟩
      ·rw [a] at hF; cases hF
      ·rw [a] at hF; cases hF; exact ⟨b,c⟩
     have hkr : Keep (fun i=>i = r2) wr w4:=Keep.of_grown hg4 _ (fun k hk=>by cases hk; exact .inl rfl)
     have hmo4:=hrg4.map
     have hown4:=own_keep hown hkr (fun i hi he=>hrg.ne_own hown (by rw [hi,he]))
     have hro4:=hro.keep hkr (fun k v i hk hi he=>by
      rcases hro.at_ k with ⟨a,_⟩ | ⟨z,a,_,c⟩
      ·rw [a] at hk; cases hk
      ·rw [a] at hk; cases hk
       exact hrg.ne_own c (by rw [hi,he]))
     have hb4 : Below w.heap.size w w4:=hb.trans (hkr.to_below hb.size (fun i h=>by omega))
     have hcon:=Lib.hid (HS.out w4 w.heap.size _ v (Hq k) hne rfl hown4 (hH k).2.2.2)
     have HROW:=Lib.hid hro4
     have HOWN:=Lib.hid hown4
     have HRG:=Lib.hid hrg4
     have HB:=Lib.hid hb4
     have HH:=Lib.hid hH
     have HRG0:=Lib.hid hrg
     have HMO:=Lib.hid hmo4
     clear hown hkr hmo4 hown4 hro4 hb4 hrg hro hb hH hrg4 hg4
     go_wp2_with (go_at_call 81; refine hcon.out.mono ?_; rintro e w5 ⟨rfl,l',hp,hpw,ho5,hk5⟩)
     go_roundw
     case rel=>
      have hl' : l' ≠ []:=fun e=>hne (by rw [e] at hp; exact hp.symm.eq_nil)
      have hR:=HROW.out.upd (w':=w5) k v l' hl' (by rw [hp.length_eq]; exact ho5) (by rw [hF]; exact hk5.mono fun i _ h=>h.symm) (.inl (by rw [hF]; rfl))
      have hF5 : Go.Proofs.YtpboohfofodeeaaGreatDoor.upd F k v = F:=funext fun x=>by
       unfold Go.Proofs.YtpboohfofodeeaaGreatDoor.upd
       by_cases e : x = k
       ·subst e; rw [if_pos rfl,hF]
       ·rw [if_neg e]
      rw [hF5] at hR
      have hg5:=HRG.out.keep hk5 (fun he=>HMO.out.own_ne HOWN.out he) (fun he=>HRG.out.ne_own HOWN.out he)
      have hb5:=HB.out.trans (hk5.to_below HB.out.size (fun i hi=>own_ge HOWN.out hi))
      refine ⟨_,_,_,hg5,hR,hb5,fun x=>?_⟩
      obtain ⟨q1,q2,q3,q4⟩:=HH.out x
      by_cases e : x = k
      ·subst e
       simp only [if_true]
       have hd:=hp.nodup_iff.2 q1
       exact ⟨hd,fun s=>by rw [hp.mem_iff]; exact q2 s,fun _=>slLt_pairwise hpw hd,by rw [hp.length_eq]; exact q4⟩
      ·simp only [e,if_false]
       exact ⟨q1,q2,fun h=>q3 (by simpa [e] using h),q4⟩
     case measure=>
      have hg5:=HRG.out.keep hk5 (fun he=>HMO.out.own_ne HOWN.out he) (fun he=>HRG.out.ne_own HOWN.out he)
      rw [hg5.left_eq,HRG0.out.left_eq]
      exact hlt
  ·obtain ⟨ino,hGs,rfl⟩ : ∃ ino,G s = some ino ∧ v = .int .i64 ino:=by
    unfold nmV at hF
    cases hG : G s with
    | none=>rw [hG] at hF; cases hF
    | some i=>rw [hG] at hF; cases hF; exact ⟨i,rfl,rfl⟩
   have hwi:=HW.out s ino hGs
   have hkr : Keep (fun i=>i = w.heap.size + 1) wr w2:=Keep.of_grown hg2 _ (fun k hk=>by cases hk; exact .inl rfl)
   have hmo2:=hmo.keep hkr (by omega)
   have hro2:=hro.keep hkr (fun k v i hk hi he=>by
    rcases hro.at_ k with ⟨a,_⟩ | ⟨z,a,_,c⟩
    ·rw [a] at hk; cases hk
    ·rw [a] at hk; cases hk
     exact hrg.ne_own c (by rw [hi,he]))
   have hb2 : Below w.heap.size w w2:=hb.trans (hkr.to_below hb.size (fun i h=>by omega))
   obtain ⟨d,nm,hsd⟩ : ∃ d nm,s.1 = (d,nm):=⟨s.1.1,s.1.2,rfl⟩
   have hen : encSl s.1 = .agg #[.int .i64 d,.string nm]:=by rw [hsd]; rfl
   have hsC : slC s = [.int .i64 d,.string nm]:=by unfold slC; rw [hsd]
   simp only [hen] at hN hE
   have hrgW:=hrg3.alloc_ (.cells #[.int .i64 d,.string nm] 96)
   have hmoW:=hmo2.alloc (.cells #[.int .i64 d,.string nm] 96)
   have hbW : Below w.heap.size w (w2.alloc (.cells #[.int .i64 d,.string nm] 96)):=hb2.alloc hb2.size _
   have hroW:=hro2.below ((Below.refl w2.heap.size w2).alloc (Nat.le_refl _) (.cells #[.int .i64 d,.string nm] 96))
   have hsz : (zeroValue 97).run Tryz.prog (w2.alloc (.cells #[.int .i64 d,.string nm] 96)) = .ok (.slice none 0 0) (w2.alloc (.cells #[.int .i64 d,.string nm] 96)):=by simp [go_sem]
   have hL:=MapI.look hmoW Tryz.underlying3 Tryz.underlying92 hsz false ino hwi
   clear hsz
   have hown:=hroW.get ino
   obtain ⟨A0,q0,hv0⟩:=own_slice hown
   rw [hv0] at hown
   simp only [hv0,Bool.false_eq_true,if_false] at hL
   have hbl:=Lib.hid (hH ino).2.2
   have HOWN:=Lib.hid hown
   have HMO:=Lib.hid hmoW
   have HRO:=Lib.hid hroW
   have HRG:=Lib.hid hrgW
   have HB:=Lib.hid hbW
   have HH:=Lib.hid hH
   have HRG0:=Lib.hid hrg
   clear hown hmoW hroW hrgW hbW hH hrg hro hro2 hmo hmo2 hb hb2 hrg3 hkr hg2
   have hnm : d = d:=rfl
   generalize hW : w2.alloc (.cells #[.int .i64 d,.string nm] 96) = W at *
   have cS : W.cell? ⟨wr.heap.size,0,none⟩ = some (.int .i64 d) ∧ W.cell? ⟨wr.heap.size,1,none⟩ = some (.string nm):=by
    rw [← hW,← hs2]
    have hB:=Blk.new w2 96 #[.int .i64 d,.string nm]
    exact ⟨hB.cell 0,hB.cell 1⟩
   obtain ⟨cS0,cS1⟩:=cS
   go_wp2_with (first
    |(at_builtin
      refine wpList_append_own_at _ rfl _ _ 97 rfl w.heap.size 96 i0 (.agg #[.int .i64 0,.string ⟨#[]⟩]) 2 24 Tryz.underlying97 hi hz0 hz1 hz2 rfl (by decide) (.slice A0 (H ino).length q0) (H ino).length (slCs (H ino)) rfl
       (HOWN.out.alloc _) ⟨W.heap.size,0,none⟩ 1 1 [.int .i64 d,.string nm] rfl rfl ?c1 ?c2 ?c3 ?c4 ?c5 ?_
      case c1=>exact World.news_of_block (heap_alloc_new W _)
      case c2=>simp [Value.oneCell']
      case c3=>have:=hbl.out; unfold maxLen; omega
      case c4=>have:=hbl.out; omega
      case c5=>have:=HB.out.size; simp; omega
      intro v2 w3 hown2 hg3 _ hat2
      have hk3 : Keep (fun i=>some i = (Value.slice A0 (H ino).length q0).ownBlock) W w3:=((Keep.refl _ W).alloc _).grown hg3 (fun k hk=>.inl hk.symm)
      have hmo3:=HMO.out.keep hk3 (fun he=>HMO.out.own_ne HOWN.out he.symm)
      have HMO3:=Lib.hid hmo3
      have HOWN2:=Lib.hid hown2
      have HAT2:=Lib.hid hat2
      have HK3:=Lib.hid hk3
      clear hown2 hg3 hat2 hk3 hmo3)
    |(at_mapUpdate
      refine wpList_mapI_store _ rfl _ _ _ 92 rfl 97 Tryz.underlying3 Tryz.underlying92 rfl HMO3.out ?m1 ino hwi v2 rfl rfl ?_
      case m1=>unfold maxLen; omega
      intro w4 hmo4 hk4 hz4
      have HMO4:=Lib.hid hmo4
      have HK4:=Lib.hid hk4
      clear hmo4 hk4 hz4))
   go_roundw
   case rel=>
    have hR3:=HRO.out.upd (w':=w3) ino v2 (H ino ++ [s]) (by simp) (by
     have:=HOWN2.out
     rw [slCs_snoc,List.length_append,hsC]
     exact this) (by rw [hv0]; exact HK3.out) (by
     rw [hv0]
     exact HAT2.out.imp id fun h=>⟨_,h,by simp⟩)
    have hR4:=hR3.keep HK4.out (fun k v i hk hi he=>by
     rcases hR3.at_ k with ⟨a,_⟩ | ⟨z,a,_,c⟩
     ·rw [a] at hk; cases hk
     ·rw [a] at hk; cases hk
      exact HMO3.out.own_ne c (by rw [hi,he]))
    have hg3:=HRG.out.keep HK3.out (fun he=>by have:=own_ge HOWN.out he.symm; omega) (fun he=>HRG.out.ne_own HOWN.out he.symm)
    have hg4:=hg3.keep HK4.out (by omega) (by omega)
    have hb3:=HB.out.trans (HK3.out.to_below HB.out.size (fun i hi=>own_ge HOWN.out hi.symm))
    have hb4:=hb3.trans (HK4.out.to_below hb3.size (fun i hi=>by omega))
    exact ⟨_,_,_,_,_,hg4,HMO4.out,hR4,hb4,sl_more HH.out hk hGs hlt,by split <;> omega⟩
   case measure=>
    have hg3:=HRG.out.keep HK3.out (fun he=>by have:=own_ge HOWN.out he.symm; omega) (fun he=>HRG.out.ne_own HOWN.out he.symm)
    have hg4:=hg3.keep HK4.out (by omega) (by omega)
    rw [hg4.left_eq,HRG0.out.left_eq]
    exact hlt
end Go.Proofs.YtpboohfofodeeaaGreatDoor
/- slices.SortFunc at slots, at items (conditions: none). -/
namespace Go.Proofs.YtpboohfofodeeaaGreatDoor
open Go.RowKit Go.Maps Go.Shelf
open Go.Sort hiding Below
theorem flat_at {α : Type} (enc : α → List Value) (hk : ∀ x,(enc x).length = 2) : ∀ (l : List α) (t : Nat),(l.flatMap enc)[t]? = (l[t / 2]?).bind fun x=>(enc x)[t % 2]?
 | [],t=>by simp
 | x :: r,t=>by
  rw [List.flatMap_cons]
  by_cases h : t < 2
  ·rw [List.getElem?_append_left (by rw [hk]; exact h)]
   have e1 : t / 2 = 0:=by omega
   have e2 : t % 2 = t:=by omega
   rw [e1,e2]; rfl
  ·rw [List.getElem?_append_right (by rw [hk]; omega),hk,flat_at enc hk r (t - 2)]
   have e1 : t / 2 = (t - 2) / 2 + 1:=by omega
   have e2 : t % 2 = (t - 2) % 2:=by omega
   rw [e1,e2]; rfl
theorem flat_len {α : Type} (enc : α → List Value) (hk : ∀ x,(enc x).length = 2) (l : List α) : (l.flatMap enc).length = l.length * 2:=by
 induction l with
 | nil=>rfl
 | cons x t ih=>simp [hk,ih]; omega
section
variable {α : Type} [Inhabited α] (enc : α → List Value)
theorem flatK_list (hk : ∀ x,(enc x).length = 2) (l : List α) : (flatK enc 2 l.toArray).toList = l.flatMap enc:=by
 apply List.ext_getElem?
 intro t
 rw [flat_at enc hk]
 by_cases h : t < l.length * 2
 ·have h1 : t / 2 < l.length:=by omega
  have h2 : t % 2 < 2:=Nat.mod_lt _ (by omega)
  have hg:=get_flatK enc 2 l.toArray t (by simpa using h)
  have hs : t < (flatK enc 2 l.toArray).size:=by simpa using h
  rw [Array.getElem?_toList,Array.getElem?_eq_getElem hs,List.getElem?_eq_getElem h1]
  simp only [Option.bind_some]
  rw [getElem!_pos (flatK enc 2 l.toArray) t hs] at hg
  rw [hg]
  have h3 : t % 2 < (enc l[t / 2]).length:=by rw [hk]; exact h2
  rw [List.getElem?_eq_getElem h3]
  simp [h1,h3]
 ·rw [List.getElem?_eq_none (by simp; omega),List.getElem?_eq_none (l:=l) (by omega)]; rfl
theorem row_holds {W : World} {base g n c : Nat} {e : TypeId} {l : List α} (hk : ∀ x,(enc x).length = 2) (h : W.ownsRow base e 2 (.slice (some ⟨g,0,none⟩) n c) n (l.flatMap enc)) (hn : n = l.length) : HoldsK enc 2 W g 0 l.toArray:=by
 subst hn
 rcases h.2 with ⟨h0,_⟩ | ⟨g',cap,cur,hv,_,hb,h1,_,h3,h4⟩
 ·cases h0
 ·cases hv
  intro j hj
  have hj' : j < l.length * 2:=by simpa using hj
  refine ⟨?_,by simp [World.frozen?,hb]⟩
  have e1 : (cur.toList.take (l.length * 2))[j]? = (flatK enc 2 l.toArray).toList[j]?:=by rw [h4,flatK_list enc hk]
  rw [List.getElem?_take_of_lt hj',Array.getElem?_toList,Array.getElem?_toList,Array.getElem?_eq_getElem hj] at e1
  rw [getElem!_pos (flatK enc 2 l.toArray) j hj]
  simp only [World.cell?,hb,Nat.zero_add]
  exact e1
theorem row_sorted {W : World} {base g n c q : Nat} {os : Array Obj} {e : TypeId} {l l' : List α} (hk : ∀ x,(enc x).length = 2) (h : W.ownsRow base e 2 (.slice (some ⟨g,0,none⟩) n c) n (l.flatMap enc)) (hn : n = l.length) (hl : l'.length = l.length) :
 (sortWorldK enc 2 W g 0 q l'.toArray os).ownsRow base e 2 (.slice (some ⟨g,0,none⟩) n c) n (l'.flatMap enc) ∧ Keep (fun i=>g = i) W (sortWorldK enc 2 W g 0 q l'.toArray os):=by
 subst hn
 rcases h.2 with ⟨h0,_⟩ | ⟨g',cap,cur,hv,hbase,hb,h1,h2,h3,h4⟩
 ·cases h0
 ·cases hv
  have hg:=lt_of_heap hb
  have hb' : (sortWorldK enc 2 W g 0 q l'.toArray os).heap[g]? = some (.cells (putCells id 0 (flatK enc 2 l'.toArray) cur) e (0,0)):=by
   unfold sortWorldK putRowK
   rw [heap_grow_old _ _ (by simpa using hg)]
   simp [putRow,mapBlock,Sort.ahead,Array.getElem?_modify,hb,onCells]
  refine ⟨⟨by rw [flat_len enc hk,hl],.inr ⟨g,c,_,rfl,hbase,hb',h1,h2,by simp [putCells,h3],?_⟩⟩,⟨rfl,rfl,rfl,?_,fun k hk' hne=>?_⟩⟩
  ·apply List.ext_getElem?
   intro j
   by_cases hj : j < l.length * 2
   ·have hjs : j < (flatK enc 2 l'.toArray).size:=by simp; omega
    rw [List.getElem?_take_of_lt hj,Array.getElem?_toList,← flatK_list enc hk l',Array.getElem?_toList,Array.getElem?_eq_getElem hjs]
    have hjc : j < cur.size:=by rw [h3]; omega
    simp only [putCells,Array.getElem?_mapIdx,Array.getElem?_eq_getElem hjc,Option.map_some]
    rw [if_pos ⟨Nat.zero_le _,by omega⟩,Nat.sub_zero,getElem!_pos (flatK enc 2 l'.toArray) j hjs]; rfl
   ·rw [List.getElem?_eq_none (by simp; omega),List.getElem?_eq_none (by rw [flat_len enc hk]; omega)]
  ·unfold sortWorldK putRowK; simp
  ·unfold sortWorldK putRowK
   rw [heap_grow_old _ _ (by simpa using hk')]
   simp [putRow,mapBlock,Sort.ahead,Array.getElem?_modify,hne]
end
theorem sorted_list {α : Type} [Inhabited α] {cf : α → α → Int} {l : List α} {d' : Array α} (hp : PermIn 0 l.toArray.size l.toArray d') (hs : SortedIn (ltOf cf) 0 l.toArray.size d') : d'.toList.Perm l ∧ d'.toList.Pairwise (fun a b=>¬ cf b a < 0):=by
 obtain ⟨h1,_,h3⟩:=hp
 have hsz : l.toArray.size = l.length:=by simp
 refine ⟨?_,List.pairwise_iff_getElem.2 fun i j hi hj hij=>?_⟩
 ·rw [← h1] at h3
  have e1 : d'.extract 0 d'.size = d':=by simp
  have e2 : l.toArray.extract 0 d'.size = l.toArray:=by rw [h1]; simp
  rw [e1,e2] at h3
  exact h3
 ·have hi' : i < d'.size:=by simpa using hi
  have hj' : j < d'.size:=by simpa using hj
  have:=hs i j (Nat.zero_le _) hij (by rw [← h1]; exact hj')
  unfold ltOf at this
  rw [getElem!_pos d' i hi',getElem!_pos d' j hj'] at this
  simpa using this
instance : Inhabited SlotK:=⟨⟨(0,⟨#[]⟩),by decide,by decide⟩⟩
theorem sort_slots : SortSl:=by
 intro W base n v l hne hn hown hlim
 obtain ⟨g,c,rfl,_,hlt⟩:=own_block hown (fun e=>hne (List.length_eq_zero_iff.1 (hn ▸ e)))
 have hk : ∀ x,(slC x).length = 2:=fun _=>rfl
 have hH:=row_holds slC hk hown hn
 have eg : ∀ args w,(callFunc 82 args).run Tryz.prog w = .ok (.enter 82 args) w:=enters_of Tryz.func82 (by kernel_rfl) rfl
 have hcmp : CmpLays Tryz.prog 82 #[] slC 2 (fun a b=>lessS a.1.1 a.1.2 b.1.1 b.1.2) g 0 l.toArray.size W:=fun m os dk _ x y=>st_less x.1.1 x.1.2 y.1.1 y.1.2 _
 have hO : SWO (ltOf fun a b : SlotK=>lessS a.1.1 a.1.2 b.1.1 b.1.2):=swo_of _ (fun x=>slp_irrefl x.1) (fun x y z h k=>slp_trans (a:=x.1) (b:=y.1) (c:=z.1) h k) (fun x y=>(slp_tri x.1 y.1).imp id fun h=>h.imp (fun h z=>by rw [h]) id)
 have hcon:=AnyQ.slices_SortFunc Tryz.sortSlots 2 Tryz.isAgg96 Tryz.sizeOf96 slC hk (fun x v hv=>by simp [slC] at hv; rcases hv with rfl | rfl <;> rfl) (fun a b=>lessS a.1.1 a.1.2 b.1.1 b.1.2) hO 82 #[] g 0 c l.toArray W eg hcmp hH hlt (by simp; omega)
 have hsz : l.toArray.size = n:=by simp [hn]
 rw [hsz] at hcon
 refine Calls.mono hcon fun e w' h=>?_
 obtain ⟨he,d',q,os,hp,hs,rfl⟩:=h
 rw [← hsz] at hp hs
 obtain ⟨h1,h2⟩:=sorted_list hp hs
 have hr:=row_sorted (q:=q) (os:=os) slC hk hown hn (l':=d'.toList) h1.length_eq
 exact ⟨he,d'.toList,h1,h2,hr.1,hr.2.mono fun i _ h=>by simp [Value.ownBlock,h]⟩
end Go.Proofs.YtpboohfofodeeaaGreatDoor
/- state: Path (conditions: none). -/
namespace Go.Proofs.YtpboohfofodeeaaGreatDoor
open Go.RowKit Go.Maps
def slash : ByteArray:=⟨#[47]⟩
/-- A slot's path by the directories' first slots; so many more names may come. -/
def pathK (H : Int → List SlotK) : Nat → SlotK → ByteArray → Option ByteArray
 | 0,s,p=>if s.1.1 = 1 then some p else none
 | k + 1,s,p=>if s.1.1 = 1 then some p else match H s.1.1 with
  | []=>none
  | a :: _=>pathK H k a (slash ++ a.1.2 ++ p)
def pathOf (H : Int → List SlotK) (s : SlotK) : Option ByteArray:=pathK H 31 s (slash ++ s.1.2)
def PathEnds (r : Option ByteArray) (e : Ending) : Prop:=(∃ p,r = some p ∧ e = .returned (.tuple #[.string p,.bool true])) ∨ r = none ∧ e = .returned (.tuple #[.string ⟨#[]⟩,.bool false])
theorem pathK_root {H : Int → List SlotK} {f : Nat} {s : SlotK} {p : ByteArray} (h : s.1.1 = 1) : pathK H f s p = some p:=by cases f <;> simp [pathK,h]
theorem pathK_none {H : Int → List SlotK} {f : Nat} {s : SlotK} {p : ByteArray} (h : ¬ s.1.1 = 1) (hH : H s.1.1 = []) : pathK H f s p = none:=by cases f <;> simp [pathK,h,hH]
theorem pathK_far {H : Int → List SlotK} {s a : SlotK} {t : List SlotK} {p : ByteArray} (h : ¬ s.1.1 = 1) (_hH : H s.1.1 = a :: t) : pathK H 0 s p = none:=by simp [pathK,h]
theorem pathK_up {H : Int → List SlotK} {f : Nat} {s a : SlotK} {t : List SlotK} {p : ByteArray} (h : ¬ s.1.1 = 1) (hH : H s.1.1 = a :: t) : pathK H (f + 1) s p = pathK H f a (slash ++ a.1.2 ++ p):=by simp [pathK,h,hH]
/-- What the loop of Path goes by. -/
structure PthAt (w : World) (H : Int → List SlotK) (r : Option ByteArray) (s : SlotK) (p : ByteArray) (k : Nat) (wr : World) : Prop where
 blk : Blk wr w.heap.size 96 #[.int .i64 s.1.1,.string s.1.2]
 bl : Below w.heap.size w wr
 eq : r = pathK H (32 - k) s p
 name : s.1.2.size ≤ 255
 size : p.size ≤ 256 * k
theorem row_first {w : World} {base n q : Nat} {A : Option Addr} {a : SlotK} {t : List SlotK} (h : w.ownsRow base 96 2 (.slice A n q) n (slCs (a :: t))) (hn : n ≠ 0) : ∃ g,A = some ⟨g,0,none⟩ ∧ w.cell? ⟨g,0,none⟩ = some (.int .i64 a.1.1) ∧ w.cell? ⟨g,1,none⟩ = some (.string a.1.2):=by
 rcases h.2 with ⟨_,h0⟩ | ⟨g,cap,cur,hv,_,hb,h1,_,h3,h4⟩
 ·exact absurd h0 hn
 ·cases hv
  refine ⟨g,rfl,?_,?_⟩
  ·have e1 : (cur.toList.take (n * 2))[0]? = (slCs (a :: t))[0]?:=by rw [h4]
   rw [List.getElem?_take_of_lt (by omega),Array.getElem?_toList] at e1
   simp only [World.cell?,hb]
   exact e1
  ·have e1 : (cur.toList.take (n * 2))[1]? = (slCs (a :: t))[1]?:=by rw [h4]
   rw [List.getElem?_take_of_lt (by omega),Array.getElem?_toList] at e1
   simp only [World.cell?,hb]
   exact e1
set_option maxHeartbeats 1000000 in
set_option maxRecDepth 100000 in
theorem st_path {w : World} {mo no base : Nat} {F : Int → Option Value} {H : Int → List SlotK} (s : SlotK) (hm : MapI Tryz.prog 3 w mo F no) (hr : RowsS w base F H) (hz : ∀ ino,∀ s ∈ H ino,s.1.2.size ≤ 255) (hs : s.1.2.size ≤ 255) :
 Calls Tryz.prog 38 #[slotV s.1.1 s.1.2,.map (some mo)] w fun e w'=>PathEnds (pathOf H s) e ∧ Below w.heap.size w w':=by
 have hB:=Blk.new w 96 #[.int .i64 s.1.1,.string s.1.2]
 have hb0 : Below w.heap.size w (w.alloc (.cells #[.int .i64 s.1.1,.string s.1.2] 96)):=(Below.refl _ _).alloc (Nat.le_refl _) _
 have H0:=Lib.hid (PthAt.mk (H:=H) (p:=slash ++ s.1.2) (k:=1) hB hb0 rfl hs (by rw [ByteArray.size_append]; have : slash.size = 1:=rfl; omega))
 have hsl : (⟨#[47]⟩ : ByteArray) = slash:=rfl
 have hs1 : slash.size = 1:=rfl
 have HM:=Lib.hid hm
 have HR:=Lib.hid hr
 have HZ:=Lib.hid hz
 have c1 : (w.alloc (.cells #[.int .i64 s.1.1,.string s.1.2] 96)).cell? ⟨w.heap.size,1,none⟩ = some (.string s.1.2):=hB.cell 1
 unfold slotV
 clear hm hr hz hb0 hB
 have hps : Hid (pathOf H s = pathK H (32 - 1) s (slash ++ s.1.2)):=Lib.hid rfl
 go_enter Tryz.func38,Tryz.ntmps38
 generalize hpo : pathOf H s = r at *
 go_wp2
 have H1 : Hid (PthAt w H r s (slash ++ s.1.2) 1 (w.alloc (.cells #[.int .i64 s.1.1,.string s.1.2] 96))):=Lib.hid (by rw [hps.out]; exact H0.out)
 clear H0 hps c1
 go_loopw [6,7,8] (fun p k _ wr=>∃ (s1 : SlotK) (p1 : ByteArray) (n : Nat),p = .string p1 ∧ k = .int .i64 n ∧ 1 ≤ n ∧ n ≤ 32 ∧ PthAt w H r s1 p1 n wr) (fun _ k _ _=>32 - (intOf k).toNat)
 case atStart=>exact ⟨s,slash ++ s.1.2,1,rfl,rfl,by omega,by omega,H1.out⟩
 case round=>
  obtain ⟨s1,p1,n,rfl,rfl,hn1,hn2,hP⟩:=hrel
  have c0 : wr.cell? ⟨w.heap.size,0,none⟩ = some (.int .i64 s1.1.1):=hP.blk.cell 0
  have hbl:=hP.bl
  have HP:=Lib.hid hP
  clear H1 hP
  by_cases hd : s1.1.1 = 1
  ·have hyes : Hid (PathEnds r (.returned (.tuple #[.string p1,.bool true]))):=Lib.hid (.inl ⟨p1,by rw [HP.out.eq]; exact pathK_root hd,rfl⟩)
   rw [hd] at c0
   go_wp2
   go_ret2
   exact ⟨hyes.out,hbl⟩
  ·have hd2 : (s1.1.1 != 1) = true:=by simpa using hd
   have hm2:=HM.out.keep (Keep.of_below hbl (fun _=>False)) (fun h=>h)
   have hr2:=HR.out.below hbl
   have hrow:=hr2.get s1.1.1
   have hsz : (zeroValue 97).run Tryz.prog wr = .ok (.slice none 0 0) wr:=by simp [go_sem]
   have hL:=MapI.look hm2 Tryz.underlying3 Tryz.underlying92 hsz false s1.1.1 s1.2.1
   obtain ⟨A,q,hv⟩:=own_slice hrow
   rw [hv] at hrow
   simp only [hv,Bool.false_eq_true,if_false] at hL
   clear hsz
   cases hH : H s1.1.1 with
   | nil=>
    have hno : Hid (PathEnds r (.returned (.tuple #[.string ⟨#[]⟩,.bool false]))):=Lib.hid (.inr ⟨by rw [HP.out.eq]; exact pathK_none hd hH,rfl⟩)
    rw [hH] at hL
    simp only [List.length_nil] at hL
    clear hr2 hm2 hrow
    go_wp2
    go_ret2
    exact ⟨hno.out,hbl⟩
   | cons a t=>
    rw [hH] at hL hrow
    obtain ⟨g,rfl,e0,e1⟩:=row_first hrow (by simp)
    have hne : ((a :: t).length : Int) ≠ 0:=by simp; omega
    have hpos : 0 < (a :: t).length:=by simp
    generalize (a :: t).length = len at *
    by_cases h32 : n = 32
    ·have hno : Hid (PathEnds r (.returned (.tuple #[.string ⟨#[]⟩,.bool false]))):=Lib.hid (.inr ⟨by rw [HP.out.eq,h32]; exact pathK_far hd hH,rfl⟩)
     subst h32
     clear hr2 hm2 hrow
     go_wp2
     go_ret2
     exact ⟨hno.out,hbl⟩
    ·have f0:=HP.out.blk.frozen 0
     have c1 : wr.cell? ⟨w.heap.size,1,none⟩ = some (.string s1.1.2):=HP.out.blk.cell 1
     have f1:=HP.out.blk.frozen 1
     have z1:=HP.out.size
     have z2 : a.1.2.size ≤ 255:=HZ.out _ a (by rw [hH]; exact List.mem_cons_self)
     have d0 : ((wr.setCell ⟨w.heap.size,0,none⟩ (.int .i64 a.1.1)).setCell ⟨w.heap.size,1,none⟩ (.string a.1.2)).cell? ⟨w.heap.size,1,none⟩ = some (.string a.1.2):=((HP.out.blk.set_ 0 _).set_ 1 _).cell 1
     have hP2 : Hid (PthAt w H r a (slash ++ a.1.2 ++ p1) (n + 1) ((wr.setCell ⟨w.heap.size,0,none⟩ (.int .i64 a.1.1)).setCell ⟨w.heap.size,1,none⟩ (.string a.1.2))):=Lib.hid ⟨(HP.out.blk.set_ 0 _).set_ 1 _,by
      have k1:=(Keep.refl (fun i=>i = w.heap.size) wr).setCell (p:=⟨w.heap.size,0,none⟩) (.inl rfl) (.int .i64 a.1.1)
      have k2:=k1.setCell (p:=⟨w.heap.size,1,none⟩) (.inl rfl) (.string a.1.2)
      exact hbl.trans (k2.to_below hbl.size (fun i h=>by omega)),by
      rw [HP.out.eq,show 32 - n = (32 - (n + 1)) + 1 by omega,pathK_up hd hH],z2,by simp only [ByteArray.size_append]; omega⟩
     have hn32 : (n : Int) < 32:=by omega
     have hlz : ((len : Int) == 0) = false:=by simpa using hne
     have hge : decide ((32 : Int) ≤ n) = false:=by simpa using hn32
     clear hr2 hm2 hrow HP hv hH HM HR HZ hpo
     go_wp2_with fail
     exact ⟨⟨a,_,n + 1,rfl,by rw [Int.natCast_succ],by omega,by omega,hP2.out⟩,by
      have q1 : (intOf (.int .i64 ((n : Int) + 1))).toNat = n + 1:=by simp only [intOf]; omega
      have q2 : (intOf (.int .i64 (n : Int))).toNat = n:=by simp only [intOf]; omega
      rw [q1,q2]; omega⟩
end Go.Proofs.YtpboohfofodeeaaGreatDoor
