/- files: what operations leave, if they were done, is right (conditions: none). -/
import Derived.Test.YtpboohfofodeeaaGreatDoorSw02
import Derived.Test.YtpboohfofodeeaaGreatDoorM20
namespace Go.Proofs.YtpboohfofodeeaaGreatDoor
open Go.RowKit Go.Maps
theorem remK_at {κ α : Type} {f : κ → Option α} {k : κ} : remK f k k = none:=by unfold remK; rw [if_pos rfl]
theorem remK_ne {κ α : Type} {f : κ → Option α} {k x : κ} (h : x ≠ k) : remK f k x = f x:=by unfold remK; rw [if_neg h]
theorem rem_ne {α : Type} {f : Int → Option α} {k x : Int} (h : x ≠ k) : rem f k x = f x:=by unfold rem; rw [if_neg h]
section
variable {G G' : SlotK → Option Int} {H H' : Int → List SlotK} {k : Int} {s : SlotK}
theorem len_less (h : SlotsP G H) (h' : SlotsP G' H') (hs : G' s ≠ some k) (e : ∀ x,G x = some k ↔ x = s ∨ G' x = some k) : (H k).length = (H' k).length + 1:=len_more h' h hs e
theorem slots_one (h : SlotsP G H) (h' : SlotsP G' H') (e : ∀ x,G x = some k ↔ G' x = some k) : H' k = H k:=by
 have go : ∀ {l l' : List SlotK},l.Pairwise slLt → l'.Pairwise slLt → (∀ x,x ∈ l ↔ x ∈ l') → l = l':=by
  intro l
  induction l with
  | nil=>
   intro l' _ _ hm
   cases l' with
   | nil=>rfl
   | cons y t=>have:=(hm y).2 (by simp); simp at this
  | cons x r ih=>
   intro l' h1 h2 hm
   cases l' with
   | nil=>have:=(hm x).1 (by simp); simp at this
   | cons y t=>
    obtain ⟨h3,h4⟩:=List.pairwise_cons.1 h1
    obtain ⟨h5,h6⟩:=List.pairwise_cons.1 h2
    have e : x = y:=by
     rcases List.mem_cons.1 ((hm x).1 (by simp)) with e | hx
     ·exact e
     ·rcases List.mem_cons.1 ((hm y).2 (by simp)) with e | hy
      ·exact e.symm
      ·exact absurd (sl_trans (h5 x hx) (h3 y hy)) (sl_irrefl _)
    subst e
    rw [ih h4 h6 fun z=>?_]
    constructor
    ·intro hz
     rcases List.mem_cons.1 ((hm z).1 (by simp [hz])) with rfl | hz'
     ·exact absurd (h3 z hz) (sl_irrefl _)
     ·exact hz'
    ·intro hz
     rcases List.mem_cons.1 ((hm z).2 (by simp [hz])) with rfl | hz'
     ·exact absurd (h5 z hz) (sl_irrefl _)
     ·exact hz'
 exact go (h' k).2.2 (h k).2.2 fun x=>(((h' k).2.1 x).trans (e x).symm).trans ((h k).2.1 x).symm
theorem pathK_congr (h : SlotsP G H) (he : ∀ x,G x ≠ none → H' x.1.1 = H x.1.1) : ∀ (f : Nat) (x : SlotK) (p : ByteArray),G x ≠ none → pathK H' f x p = pathK H f x p
 | 0,x,p,_=>rfl
 | f + 1,x,p,hx=>by
  unfold pathK
  rw [he x hx]
  split
  ·rfl
  ·cases hH : H x.1.1 with
   | nil=>rfl
   | cons a t=>
    simp only
    exact pathK_congr h he f a _ (by rw [((h x.1.1).2.1 a).1 (by rw [hH]; simp)]; exact fun e=>by cases e)
end
section
variable {fs : FS} {ino : Int} {a a' : NodeA}
theorem right_node (h : RightFS fs) (ha : fs.N ino = some a) (h1 : a'.nd.kind = a.nd.kind) (h2 : a'.nd.links = a.nd.links) (h3 : nodeOk a') : RightFS { fs with N:=upd fs.N ino a' }:=by
 have hold : ∀ k b,fs.N k = some b → ∃ c,upd fs.N ino a' k = some c ∧ c.nd.kind = b.nd.kind:=fun k b e=>by
  by_cases hk : k = ino
  ·subst hk
   rw [ha] at e
   cases e
   exact ⟨a',updI_at,h1⟩
  ·exact ⟨b,(updI_ne hk).trans e,rfl⟩
 refine ⟨⟨fun k b e=>?_,?_⟩,fun s i e=>?_,?_,fun k b e=>?_⟩
 ·rcases updI_some (show upd fs.N ino a' k = some b from e) with ⟨rfl,_⟩ | ⟨_,e⟩
  ·exact h.rooted.1 _ a ha
  ·exact h.rooted.1 k b e
 ·obtain ⟨b,hb,hk⟩:=h.rooted.2
  obtain ⟨c,hc,hk2⟩:=hold 1 b hb
  exact ⟨c,hc,hk2.trans hk⟩
 ·obtain ⟨⟨b,hb,hk⟩,h4,h5,h6⟩:=h.named s i e
  obtain ⟨c,hc,hk2⟩:=hold _ b hb
  obtain ⟨d,hd⟩:=Option.ne_none_iff_exists'.1 h5
  obtain ⟨x,hx,_⟩:=hold _ d hd
  exact ⟨⟨c,hc,hk2.trans hk⟩,h4,(by show upd fs.N ino a' i ≠ none; rw [hx]; exact fun h=>(by cases h)),h6⟩
 ·obtain ⟨H,hH,hL⟩:=h.linked
  refine ⟨H,hH,fun k b e=>?_⟩
  rcases updI_some (show upd fs.N ino a' k = some b from e) with ⟨rfl,rfl⟩ | ⟨_,e⟩
  ·exact ⟨fun hk=>by rw [h2]; exact (hL _ a ha).1 hk,(hL _ a ha).2⟩
  ·exact hL k b e
 ·rcases updI_some (show upd fs.N ino a' k = some b from e) with ⟨rfl,rfl⟩ | ⟨_,e⟩
  ·exact h3
  ·exact h.filled k b e
theorem dir_ne (h : RightFS fs) (ha : fs.N ino = some a) (hk : a.nd.kind ≠ 2) : ∀ s i,fs.G s = some i → s.1.1 ≠ ino:=fun s i e hs=>by
 obtain ⟨⟨b,hb,hk2⟩,_⟩:=h.named s i e
 rw [hs,ha] at hb
 cases hb
 exact hk hk2
theorem links_one (h : RightFS fs) (ha : fs.N ino = some a) (hl : a.nd.links = 1) {s t : SlotK} (hs : fs.G s = some ino) (ht : fs.G t = some ino) : s = t:=by
 obtain ⟨H,hH,hL⟩:=h.linked
 have h1:=(hL ino a ha).1 (h.named s ino hs).2.1
 rw [hl] at h1
 obtain ⟨x,hx⟩:=List.length_eq_one_iff.1 (by omega : (H ino).length = 1)
 have hs':=((hH ino).2.1 s).2 hs
 have ht':=((hH ino).2.1 t).2 ht
 rw [hx] at hs' ht'
 rw [List.mem_singleton.1 hs',List.mem_singleton.1 ht']
theorem away_N (fs : FS) (s : SlotK) (ino : Int) (a : NodeA) {k : Int} (hk : k ≠ ino) : (awayS fs s ino a).N k = fs.N k:=by
 unfold awayS
 simp only
 split
 ·exact rem_ne hk
 ·exact updI_ne hk
theorem away_at {fs : FS} {s : SlotK} {ino : Int} {a b : NodeA} (h : (awayS fs s ino a).N ino = some b) : a.nd.links ≠ 1 ∧ b = { a with nd:={ a.nd with links:=a.nd.links - 1 } }:=by
 unfold awayS at h
 simp only at h
 by_cases h1 : a.nd.links = 1
 ·rw [if_pos h1] at h
  unfold rem at h
  rw [if_pos rfl] at h
  cases h
 ·rw [if_neg h1,updI_at] at h
  exact ⟨h1,(Option.some.inj h).symm⟩
theorem away_some {fs : FS} {s : SlotK} {ino k : Int} {a b : NodeA} (h : (awayS fs s ino a).N k = some b) : (k = ino ∧ a.nd.links ≠ 1 ∧ b = { a with nd:={ a.nd with links:=a.nd.links - 1 } }) ∨ (k ≠ ino ∧ fs.N k = some b):=by
 by_cases hk : k = ino
 ·subst hk
  exact .inl ⟨rfl,away_at h⟩
 ·rw [away_N fs s ino a hk] at h
  exact .inr ⟨hk,h⟩
/-- Something is taken away that nothing stands in. -/
theorem right_away (h : RightFS fs) {sl : SlotK} (hg : fs.G sl = some ino) (ha : fs.N ino = some a) (hE : ∀ s i,fs.G s = some i → s.1.1 ≠ ino) : RightFS (awayS fs sl ino a):=by
 obtain ⟨H,hH,hL⟩:=h.linked
 have hn1 : ino ≠ 1:=(h.named sl ino hg).2.1
 have hG : (awayS fs sl ino a).G = remK fs.G sl:=rfl
 obtain ⟨H',hH'⟩:=slots_make (G:=(awayS fs sl ino a).G) fun i=>⟨H i,fun s e=>((hH i).2.1 s).2 (remK_ok (by rw [hG] at e; exact e))⟩
 have hne : ∀ k,k ≠ ino → ∀ x,fs.G x = some k ↔ (awayS fs sl ino a).G x = some k:=fun k hk x=>by
  rw [hG]
  by_cases hx : x = sl
  ·subst hx
   rw [hg,remK_at]
   constructor
   ·intro e; cases e; exact absurd rfl hk
   ·intro e; cases e
  ·rw [remK_ne hx]
 refine ⟨⟨fun k b e=>?_,?_⟩,fun s i e=>?_,⟨H',hH',fun k b e=>⟨fun hk1=>?_,fun s hs=>?_⟩⟩,fun k b e=>?_⟩
 ·rcases away_some e with ⟨rfl,_⟩ | ⟨_,e⟩
  ·exact h.rooted.1 _ a ha
  ·exact h.rooted.1 k b e
 ·obtain ⟨b,hb,hk⟩:=h.rooted.2
  exact ⟨b,by rw [away_N _ _ _ _ (fun x=>hn1 x.symm)]; exact hb,hk⟩
 ·have e0 : fs.G s = some i:=remK_ok (by rw [hG] at e; exact e)
  have hsl : s ≠ sl:=fun x=>by rw [x,hG,remK_at] at e; cases e
  obtain ⟨⟨b,hb,hk⟩,h4,h5,h6⟩:=h.named s i e0
  refine ⟨⟨b,by rw [away_N _ _ _ _ (hE s i e0)]; exact hb,hk⟩,h4,?_,h6⟩
  by_cases hi : i = ino
  ·subst hi
   by_cases hl : a.nd.links = 1
   ·exact absurd (links_one h ha hl e0 hg) hsl
   ·unfold awayS
    simp only
    rw [if_neg hl,updI_at]
    exact fun x=>by cases x
  ·rw [away_N _ _ _ _ hi]; exact h5
 ·rcases away_some e with ⟨rfl,hl,rfl⟩ | ⟨hk,e⟩
  ·have h1:=(hL _ a ha).1 hk1
   have h2:=len_less (k:=k) (s:=sl) hH hH' (by rw [hG,remK_at]; exact fun x=>by cases x) (fun x=>by
    rw [hG]
    by_cases hx : x = sl
    ·subst hx
     rw [hg,remK_at]; simp
    ·rw [remK_ne hx]; simp [hx])
   show ((H' k).length : Int) = a.nd.links - 1
   omega
  ·rw [slots_one hH hH' (hne k hk)]
   exact (hL k b e).1 hk1
 ·have e0 : fs.G s = some k:=remK_ok (by have:=((hH' k).2.1 s).1 hs; rw [hG] at this; exact this)
  obtain ⟨c,hc⟩:=Option.ne_none_iff_exists'.1 (h.named s k e0).2.2.1
  obtain ⟨p,hp,hz⟩:=(hL k c hc).2 s (((hH k).2.1 s).2 e0)
  refine ⟨p,?_,hz⟩
  rw [← hp]
  refine pathK_congr hH (fun x hx=>?_) 31 s _ (by rw [e0]; exact fun x=>by cases x)
  obtain ⟨i,hi⟩:=Option.ne_none_iff_exists'.1 hx
  exact slots_one hH hH' (hne _ (hE x i hi))
 ·rcases away_some e with ⟨rfl,hl,rfl⟩ | ⟨hk,e⟩
  ·exact h.filled _ a ha
  ·exact h.filled k b e
end
/-- What stands at a spot that has a name. -/
theorem Wok.stands {fs : FS} {r : WR} (h : Wok fs r) (h0 : r.code = 0) (hn : r.name.toList.isEmpty = false) : atG fs.G r.dir r.name = none ∧ r.ino = 0 ∨ atG fs.G r.dir r.name = some r.ino:=by
 rcases h.2 h0 with ⟨h1,_⟩ | ⟨_,_,_,h4⟩
 ·rw [h1,toList_eq] at hn
  exact absurd hn (by decide)
 ·exact h4
theorem Wok.free {fs : FS} (hC : Canon fs) (hR : RightFS fs) {r : WR} (h : Wok fs r) (h0 : r.code = 0) (hi : r.ino = 0) : atG fs.G r.dir r.name = none:=by
 rcases h.2 h0 with ⟨_,_,h3⟩ | ⟨_,_,_,⟨h4,_⟩ | h4⟩
 ·obtain ⟨a,ha,_⟩:=h3.dir
  have:=hC.pos ha
  omega
 ·exact h4
 ·obtain ⟨s,_,hs⟩:=slotAt_some h4
  obtain ⟨a,ha⟩:=Option.ne_none_iff_exists'.1 (hR.named s _ hs).2.2.1
  have:=hC.pos ha
  omega
/-- The slot of what stands somewhere. -/
theorem AtR.slot_at {fs : FS} {r : WR} {sl : SlotK} {a : NodeA} (h : AtR fs r sl a) (hw : Wok fs r) (h0 : r.code = 0) (hn : sl.1.2.toList.isEmpty = false) : fs.G sl = some r.ino:=by
 have hn' : r.name.toList.isEmpty = false:=by rw [h.slot] at hn; exact hn
 rcases hw.stands h0 hn' with ⟨_,h1⟩ | h1
 ·exact absurd h1 h.ino
 ·rw [atG_slot h.slot] at h1
  exact h1
theorem Wok.slot_file {fs : FS} {r : WR} {a : NodeA} (hC : Canon fs) (h : Wok fs r) (h0 : r.code = 0) (ha : fs.N r.ino = some a) (hk : a.nd.kind ≠ 2) : atG fs.G r.dir r.name = some r.ino:=by
 rcases h.2 h0 with ⟨_,_,h3⟩ | ⟨_,_,_,⟨_,h4⟩ | h4⟩
 ·obtain ⟨b,hb,hk2⟩:=h3.dir
  rw [ha] at hb
  cases hb
  exact absurd hk2 hk
 ·have:=hC.pos ha
  omega
 ·exact h4
theorem LinkR.right {fs fs' : FS} {ino : Int} {a : NodeA} {tp : ByteArray} (hC : Canon fs) (hR : RightFS fs) (ha : fs.N ino = some a) (h : LinkR fs ino a tp 0 fs') : RightFS fs':=by
 rcases h with ⟨_,h1,_⟩ | ⟨_,h1,h2,_⟩ | ⟨_,_,_,h1,_⟩ | ⟨_,_,_,_,h1,_⟩ | ⟨hk,h1,h2,h3,sl,h4,rfl,hl⟩
 ·cases h1
 ·exact absurd h2.symm h1
 ·cases h1
 ·cases h1
 ·have hl : ¬ longS (putG { fs with N:=upd fs.N ino { a with nd:={ a.nd with links:=a.nd.links + 1 } } } sl ino):=by
   rcases hl with ⟨h,_⟩ | ⟨_,h⟩
   ·cases h
   ·exact h
  have hi1 : ino ≠ 1:=fun e=>by
   obtain ⟨b,hb,hk2⟩:=hR.rooted.2
   rw [← e,ha] at hb
   cases hb
   exact hk hk2
  have hw:=walk_ok hR hC.wf tp false
  have hfree:=hw.free hC hR h1 h2
  rw [atG_slot h4] at hfree
  obtain ⟨hn,hd,_⟩:=hw.spot hC h1 (.inl h2)
  obtain ⟨H,hH,hL⟩:=hR.linked
  have hal : ∀ k b,fs.N k = some b → ∃ c,upd fs.N ino { a with nd:={ a.nd with links:=a.nd.links + 1 } } k = some c ∧ c.nd.kind = b.nd.kind:=fun k b e=>by
   by_cases hk : k = ino
   ·subst hk
    rw [ha] at e
    cases e
    exact ⟨_,updI_at,rfl⟩
   ·exact ⟨b,(updI_ne hk).trans e,rfl⟩
  have hne : ∀ k b,fs.N k = some b → upd fs.N ino { a with nd:={ a.nd with links:=a.nd.links + 1 } } k ≠ none:=fun k b e=>by
   obtain ⟨c,hc,_⟩:=hal k b e
   rw [hc]; exact fun h=>by cases h
  obtain ⟨H',hH'⟩:=slots_make (G:=updK fs.G sl ino) fun i=>⟨sl :: H i,fun s e=>by
   rcases updK_some e with ⟨rfl,_⟩ | ⟨_,e⟩
   ·simp
   ·exact List.mem_cons_of_mem _ (((hH i).2.1 s).2 e)⟩
  refine right_of (H:=H') ⟨fun k b e=>?_,?_⟩ (fun s i e=>?_) hH' (fun k b e hk1=>?_) hl (fun k b e=>?_)
  ·rcases updI_some (show upd fs.N ino _ k = some b from e) with ⟨rfl,_⟩ | ⟨_,e⟩
   ·exact hR.rooted.1 _ a ha
   ·exact hR.rooted.1 k b e
  ·obtain ⟨b,hb,hk⟩:=hR.rooted.2
   obtain ⟨c,hc,hk2⟩:=hal 1 b hb
   exact ⟨c,hc,hk2.trans hk⟩
  ·rcases updK_some (show updK fs.G sl ino s = some i from e) with ⟨rfl,rfl⟩ | ⟨_,e⟩
   ·obtain ⟨b,hb,hk⟩:=hd
    obtain ⟨c,hc,hk2⟩:=hal _ b hb
    rw [h4]
    exact ⟨⟨c,hc,hk2.trans hk⟩,hi1,hne _ a ha,hn⟩
   ·obtain ⟨⟨b,hb,hk⟩,h5,h6,h7⟩:=hR.named s i e
    obtain ⟨c,hc,hk2⟩:=hal _ b hb
    obtain ⟨d,hd⟩:=Option.ne_none_iff_exists'.1 h6
    exact ⟨⟨c,hc,hk2.trans hk⟩,h5,hne _ d hd,h7⟩
  ·rcases updI_some (show upd fs.N ino _ k = some b from e) with ⟨rfl,rfl⟩ | ⟨hk,e⟩
   ·rw [len_more (k:=k) (s:=sl) hH hH' (by rw [hfree]; exact fun h=>by cases h) (fun x=>by
     by_cases hx : x = sl
     ·subst hx; rw [updK_at]; simp
     ·rw [updK_ne hx]; simp [hx])]
    have:=(hL _ a ha).1 hk1
    show (((H k).length + 1 : Nat) : Int) = a.nd.links + 1
    omega
   ·rw [len_same (k:=k) hH hH' (fun x=>by
     by_cases hx : x = sl
     ·subst hx
      rw [hfree,updK_at]
      constructor
      ·intro h; cases h
      ·intro h; cases h; exact absurd rfl hk
     ·rw [updK_ne hx])]
    exact (hL k b e).1 hk1
  ·rcases updI_some (show upd fs.N ino _ k = some b from e) with ⟨rfl,rfl⟩ | ⟨_,e⟩
   ·exact hR.filled _ a ha
   ·exact hR.filled k b e
end Go.Proofs.YtpboohfofodeeaaGreatDoor
/- files: what operations leave, if they were done, is right: renamed, and all (conditions: none). -/
namespace Go.Proofs.YtpboohfofodeeaaGreatDoor
open Go.RowKit Go.Maps
theorem right_move {fs : FS} {sl t : SlotK} {ino : Int} {a : NodeA} (h : RightFS fs) (ha : fs.N ino = some a) (hg : fs.G sl = some ino) (ht : fs.G t = none) (hd : isDir fs t.1.1) (hn : nameB t.1.2 = true) (hl : ¬ longS (putG { fs with G:=remK fs.G sl } t ino)) : RightFS (putG { fs with G:=remK fs.G sl } t ino):=by
 obtain ⟨H,hH,hL⟩:=h.linked
 have hne : sl ≠ t:=fun e=>by rw [e,ht] at hg; cases hg
 have hfin : ∀ (G : SlotK → Option Int),(∀ s i,G s = some i → s = t ∨ fs.G s = some i) → ∃ H',SlotsP G H':=fun G hG=>slots_make fun i=>⟨t :: H i,fun s e=>by
  rcases hG s i e with rfl | e
  ·simp
  ·exact List.mem_cons_of_mem _ (((hH i).2.1 s).2 e)⟩
 obtain ⟨H1,hH1⟩:=hfin (remK fs.G sl) fun s i e=>.inr (remK_ok e)
 obtain ⟨H',hH'⟩:=hfin (updK (remK fs.G sl) t ino) fun s i e=>by
  rcases updK_some e with ⟨rfl,_⟩ | ⟨_,e⟩
  ·exact .inl rfl
  ·exact .inr (remK_ok e)
 have ht1 : remK fs.G sl t = none:=by rw [remK_ne (fun e=>hne e.symm)]; exact ht
 refine right_of (H:=H') h.rooted (fun s i e=>?_) hH' (fun k b e hk1=>?_) hl h.filled
 ·rcases updK_some (show updK (remK fs.G sl) t ino s = some i from e) with ⟨rfl,rfl⟩ | ⟨_,e⟩
  ·exact ⟨hd,(h.named sl _ hg).2.1,by show fs.N _ ≠ none; rw [ha]; exact fun h=>(by cases h),hn⟩
  ·exact h.named s i (remK_ok e)
 ·have h0:=(hL k b e).1 hk1
  by_cases hk : k = ino
  ·subst hk
   have h1:=len_less (k:=k) (s:=sl) hH hH1 (by rw [remK_at]; exact fun h=>by cases h) (fun x=>by
    by_cases hx : x = sl
    ·subst hx; rw [hg,remK_at]; simp
    ·rw [remK_ne hx]; simp [hx])
   have h2:=len_more (k:=k) (s:=t) hH1 hH' (by rw [ht1]; exact fun h=>by cases h) (fun x=>by
    by_cases hx : x = t
    ·subst hx; rw [updK_at]; simp
    ·rw [updK_ne hx]; simp [hx])
   rw [h2,← h1]
   exact h0
  ·rw [len_same (k:=k) hH hH' (fun x=>by
    by_cases hx : x = t
    ·subst hx
     rw [ht,updK_at]
     constructor
     ·intro h; cases h
     ·intro h; cases h; exact absurd rfl hk
    ·rw [updK_ne hx]
     by_cases hy : x = sl
     ·subst hy
      rw [hg,remK_at]
      constructor
      ·intro h; cases h; exact absurd rfl hk
      ·intro h; cases h
     ·rw [remK_ne hy])]
   exact h0
theorem RenR.right {fs fs' : FS} {sl : SlotK} {ino : Int} {a : NodeA} {tp : ByteArray} (hC : Canon fs) (hR : RightFS fs) (ha : fs.N ino = some a) (hg : sl.1.2.toList.isEmpty = false → fs.G sl = some ino) (h : RenR fs sl ino a tp 0 fs') : RightFS fs':=by
 rcases h with ⟨_,h,_⟩ | ⟨hs,⟨h1,h,_⟩ | ⟨h1,⟨_,h,_⟩ | ⟨h2,⟨_,_,rfl⟩ | ⟨hni,⟨_,_,h,_⟩ | ⟨_,⟨_,_,_,_,h,_⟩ | ⟨_,_,_,_,_,h,_⟩ | ⟨_,_,_,_,h,_⟩ | ⟨t,ht,hlong,h⟩⟩⟩⟩⟩⟩
 ·cases h
 ·exact absurd h.symm h1
 ·cases h
 ·exact hR
 ·cases h
 ·cases h
 ·cases h
 ·cases h
 ·have hg:=hg hs
  have hl : ¬ longS fs':=by
   rcases hlong with ⟨h,_⟩ | ⟨_,h⟩
   ·cases h
   ·exact h
  have hw:=walk_ok hR hC.wf tp false
  obtain ⟨hn,hd,_⟩:=hw.spot hC h1 (.inr h2)
  have hst:=hw.stands h1 h2
  rw [atG_slot ht] at hst
  have hn' : nameB t.1.2 = true:=by rw [ht]; exact hn
  have hd' : isDir fs t.1.1:=by rw [ht]; exact hd
  rcases h with ⟨hno,rfl⟩ | ⟨o,ho,hk2,hk1,rfl⟩
  ·have hnone : fs.G t = none:=by
    rcases hst with ⟨h,_⟩ | h
    ·exact h
    ·exact absurd hno (hR.named t _ h).2.2.1
   exact right_move hR ha hg hnone hd' hn' hl
  ·have hgt : fs.G t = some (walkS fs tp false).ino:=by
    rcases hst with ⟨_,h⟩ | h
    ·have:=hC.pos ho
     omega
    ·exact h
   have hE : ∀ s i,fs.G s = some i → s.1.1 ≠ (walkS fs tp false).ino:=by
    by_cases hk : o.nd.kind = 2
    ·have hak : a.nd.kind = 2:=Classical.byContradiction fun h=>hk1 h hk
     exact (hk2 hak).2
    ·exact dir_ne hR ho hk
   have hR1:=right_away hR hgt ho hE
   have hne : sl ≠ t:=fun e=>by
    rw [e,hgt] at hg
    cases hg
    exact hni rfl
   refine right_move hR1 (a:=a) (by rw [away_N _ _ _ _ (fun e=>hni e.symm)]; exact ha) ((remK_ne hne).trans hg) remK_at ?_ hn' hl
   obtain ⟨b,hb,hbk⟩:=hd'
   exact ⟨b,by rw [away_N _ _ _ _ (hE t _ hgt)]; exact hb,hbk⟩
theorem NodeR.right {fs fs' : FS} {ino : Int} {a : NodeA} {o : OpA} {p : AnsP} (hR : RightFS fs) (ha : fs.N ino = some a) (h : NodeR fs ino a o p fs') : RightFS fs':=by
 have hf:=hR.filled ino a ha
 rcases h with ⟨_,_,rfl⟩ | ⟨_,rfl,_⟩ | ⟨_,⟨_,_,rfl⟩ | ⟨_,_,rfl⟩⟩ | ⟨_,rfl,_⟩ | ⟨_,_,rfl⟩ | ⟨_,_,rfl⟩ | ⟨_,rfl,_⟩ | ⟨_,rfl,_⟩ | ⟨_,rfl,_⟩
 ·exact right_node hR ha rfl rfl hf
 ·exact hR
 ·exact hR
 ·exact right_node hR ha rfl rfl hf
 ·exact hR
 ·exact right_node hR ha rfl rfl hf
 ·exact right_node hR ha rfl rfl hf
 ·exact hR
 ·exact hR
 ·exact hR
/-- **What an operation leaves, if it was done, is right.** -/
theorem DoesR.right {fs fs' : FS} {o : OpA} {p : AnsP} (hC : Canon fs) (hR : RightFS fs) (hm : mayS o = 0) (h : DoesR fs o p fs') (h0 : p.code = 0) : RightFS fs':=by
 have hw:=walk_ok hR hC.wf o.path (followsB o.kind)
 rcases h with ⟨h1,rfl,_⟩ | ⟨hc,⟨hk,sl,hs,hmk⟩ | ⟨_,_,rfl,_⟩ | ⟨sl,a,hat,h2⟩⟩
 ·exact absurd h0 h1
 ·rcases hmk with ⟨_,rfl,_⟩ | ⟨_,_,rfl,_⟩ | ⟨hz,h2,rfl,⟨rfl,_⟩ | ⟨_,hl⟩⟩
  ·exact absurd h0 (by decide : (161 : Int) ≠ 0)
  ·exact absurd h0 (by decide : (169 : Int) ≠ 0)
  ·exact absurd h0 (by decide : (120 : Int) ≠ 0)
  ·obtain ⟨hn,hd,_⟩:=hw.spot hC hc (.inl hz)
   have hf:=hw.free hC hR hc hz
   rw [atG_slot hs] at hf
   obtain ⟨_,_,r3⟩:=new_right hm hk
   exact right_make hR (by rw [hs]; exact hd) (by rw [hs]; exact hn) hf (fun _=>r3) hl
 ·exact absurd h0 (by decide : (160 : Int) ≠ 0)
 ·rcases h2 with ⟨_,code,h3,rfl⟩ | ⟨_,code,h3,rfl⟩ | ⟨_,rfl,rfl⟩ | ⟨hk,rfl,rfl⟩ | ⟨_,h3⟩
  ·obtain rfl : code = 0:=h0
   exact h3.right hC hR hat.node
  ·obtain rfl : code = 0:=h0
   exact h3.right hC hR hat.node (fun hn=>hat.slot_at hw hc hn)
  ·have h0 : unlinkC fs sl _ a (o.kind == 6) = 0:=h0
   unfold unlinkS
   rw [if_pos h0]
   unfold unlinkC at h0
   by_cases hk : a.nd.kind = 2
   ·cases hrm : (o.kind == 6) with
    | false=>rw [hrm,if_pos ⟨hk,rfl⟩] at h0; cases h0
    | true=>
     rw [hrm,if_neg (by simp),if_neg (by simp)] at h0
     cases hn : sl.1.2.toList.isEmpty with
     | true=>rw [hn,if_pos rfl] at h0; cases h0
     | false=>
      rw [hn,if_neg (by simp),if_neg (fun h=>h hk)] at h0
      by_cases he : emptyS fs.G (walkS fs o.path (followsB o.kind)).ino
      ·exact right_away hR (hat.slot_at hw hc hn) hat.node he
      ·rw [if_pos he] at h0; cases h0
   ·have hg:=hw.slot_file hC hc hat.node hk
    rw [atG_slot hat.slot] at hg
    exact right_away hR hg hat.node (dir_ne hR hat.node hk)
  ·have h0 : dataC a o = 0:=h0
   obtain ⟨h1,hck⟩:=data_file hC hR hat hc hk h0
   have hd:=data_chk hck h0 hk
   unfold dataFS
   rw [if_pos h0]
   exact right_node hR hat.node (a':=dataNA a o) rfl rfl ⟨fun h=>absurd h1 h,fun _=>chk_iff.2 hd⟩
  ·exact h3.right hR hat.node
theorem DoesR.good {fs fs' : FS} {o : OpA} {p : AnsP} (h : Good fs) (hi : OpInts o) (hm : mayS o = 0) (hd : DoesR fs o p fs') (h0 : p.code = 0) : Good fs':=⟨hd.canon h.canon h.right hi hm h0,hd.right h.canon h.right hm h0⟩
end Go.Proofs.YtpboohfofodeeaaGreatDoor
/- Files, plainly: an operation makes one name at most; files that operations made (conditions: none). -/
namespace Go.Proofs.YtpboohfofodeeaaGreatDoor
open Go.RowKit Go.Maps
/-- At most one name more. -/
def More1 (fs fs' : FS) : Prop:=∃ t : Option SlotK,∀ s,(fs'.G s).isSome → (fs.G s).isSome ∨ some s = t
section
variable {fs fs' : FS}
theorem more_sub (h : ∀ s,(fs'.G s).isSome → (fs.G s).isSome) : More1 fs fs':=⟨none,fun s hs=>.inl (h s hs)⟩
theorem more_refl (fs : FS) : More1 fs fs:=more_sub fun _ h=>h
theorem more_put {G1 : SlotK → Option Int} {t : SlotK} {i : Int} (hG : fs'.G = updK G1 t i) (h : ∀ s,(G1 s).isSome → (fs.G s).isSome) : More1 fs fs':=⟨some t,fun s hs=>by
 by_cases e : s = t
 ·exact .inr (by rw [e])
 ·rw [hG,updK_ne e] at hs
  exact .inl (h s hs)⟩
theorem rem_sub {G : SlotK → Option Int} {t : SlotK} (s : SlotK) (h : (remK G t s).isSome) : (G s).isSome:=by
 by_cases e : s = t
 ·rw [e,remK_at] at h; cases h
 ·rwa [remK_ne e] at h
theorem Few.more {n : Nat} (h : Few fs n) (hm : More1 fs fs') : Few fs' (n + 1):=by
 obtain ⟨L,h1,h2⟩:=h
 obtain ⟨t,ht⟩:=hm
 cases t with
 | none=>exact ⟨L,by omega,fun s hs=>h2 s ((ht s hs).resolve_right (fun e=>by cases e))⟩
 | some t=>exact ⟨t :: L,by simpa using h1,fun s hs=>by
  rcases ht s hs with h | h
  ·exact List.mem_cons_of_mem _ (h2 s h)
  ·cases h; simp⟩
theorem LinkR.more {ino code : Int} {a : NodeA} {tp : ByteArray} (h : LinkR fs ino a tp code fs') : More1 fs fs':=by
 rcases h with ⟨_,_,rfl⟩ | ⟨_,_,_,rfl⟩ | ⟨_,_,_,_,rfl⟩ | ⟨_,_,_,_,_,rfl⟩ | ⟨_,_,_,_,sl,_,rfl,_⟩
 ·exact more_refl _
 ·exact more_refl _
 ·exact more_refl _
 ·exact more_refl _
 ·exact more_put (G1:=fs.G) (t:=sl) (i:=ino) rfl fun _ h=>h
theorem RenR.more {sl : SlotK} {ino code : Int} {a : NodeA} {tp : ByteArray} (h : RenR fs sl ino a tp code fs') : More1 fs fs':=by
 rcases h with ⟨_,_,rfl⟩ | ⟨_,⟨_,_,rfl⟩ | ⟨_,⟨_,_,rfl⟩ | ⟨_,⟨_,_,rfl⟩ | ⟨_,⟨_,_,_,rfl⟩ | ⟨_,⟨_,_,_,_,_,rfl⟩ | ⟨_,_,_,_,_,_,rfl⟩ | ⟨_,_,_,_,_,rfl⟩ | ⟨t,_,_,⟨_,rfl⟩ | ⟨o,_,_,_,rfl⟩⟩⟩⟩⟩⟩⟩
 all_goals first | exact more_refl _ | skip
 ·exact more_put (G1:=remK fs.G sl) (t:=t) (i:=ino) rfl fun s h=>rem_sub s h
 ·exact more_put (G1:=remK (remK fs.G t) sl) (t:=t) (i:=ino) rfl fun s h=>rem_sub s (rem_sub s h)
theorem NodeR.same {ino : Int} {a : NodeA} {o : OpA} {p : AnsP} (h : NodeR fs ino a o p fs') : fs'.G = fs.G:=by
 rcases h with ⟨_,_,rfl⟩ | ⟨_,rfl,_⟩ | ⟨_,⟨_,_,rfl⟩ | ⟨_,_,rfl⟩⟩ | ⟨_,rfl,_⟩ | ⟨_,_,rfl⟩ | ⟨_,_,rfl⟩ | ⟨_,rfl,_⟩ | ⟨_,rfl,_⟩ | ⟨_,rfl,_⟩
 all_goals rfl
theorem DoesR.more {o : OpA} {p : AnsP} (h : DoesR fs o p fs') : More1 fs fs':=by
 rcases h with ⟨_,_,rfl⟩ | ⟨_,⟨_,sl,_,h⟩ | ⟨_,_,_,rfl⟩ | ⟨sl,a,_,h⟩⟩
 ·exact more_refl _
 ·rcases h with ⟨_,_,rfl⟩ | ⟨_,_,_,rfl⟩ | ⟨_,_,rfl,_⟩
  ·exact more_refl _
  ·exact more_refl _
  ·exact more_put (G1:=fs.G) (t:=sl) (i:=fs.next) rfl fun _ h=>h
 ·exact more_refl _
 ·rcases h with ⟨_,code,h,_⟩ | ⟨_,code,h,_⟩ | ⟨_,_,rfl⟩ | ⟨_,_,rfl⟩ | ⟨_,h⟩
  ·exact h.more
  ·exact h.more
  ·refine more_sub fun s hs=>?_
   unfold unlinkS at hs
   split at hs
   ·exact rem_sub s hs
   ·exact hs
  ·refine more_sub fun s hs=>?_
   unfold dataFS at hs
   split at hs
   ·exact hs
   ·exact hs
  ·exact more_sub fun s hs=>by rw [h.same] at hs; exact hs
end
/-- Files that so many operations made, or fewer. -/
inductive Rch : Nat → FS → Prop
 | root : Rch 0 fsRoot
 | same {k : Nat} {fs : FS} : Rch k fs → Rch (k + 1) fs
 | op {k : Nat} {fs fs' : FS} {o : OpA} {p : AnsP} : Rch k fs → OpInts o → mayS o = 0 → DoesR fs o p fs' → p.code = 0 → Rch (k + 1) fs'
theorem Rch.good {k : Nat} {fs : FS} (h : Rch k fs) : Good fs:=by
 induction h with
 | root=>exact root_good
 | same _ ih=>exact ih
 | op _ hi hm hd h0 ih=>exact hd.good ih hi hm h0
theorem Rch.few {k : Nat} {fs : FS} (h : Rch k fs) : Few fs k:=by
 induction h with
 | root=>exact ⟨[],Nat.le_refl _,fun s hs=>by simp [fsRoot] at hs⟩
 | same _ ih=>
  obtain ⟨L,h1,h2⟩:=ih
  exact ⟨L,by omega,h2⟩
 | op _ _ _ hd _ ih=>exact ih.more hd.more
end Go.Proofs.YtpboohfofodeeaaGreatDoor
/- Insertion by swaps, plainly: what comes of it is sortT (conditions: none). -/
namespace Go.Proofs.YtpboohfofodeeaaGreatDoor
open Go.RowKit
def LeT (a b : ByteArray) : Prop:=a.data.toList ≤ b.data.toList
theorem LeT.trans {a b c : ByteArray} (h : LeT a b) (k : LeT b c) : LeT a c:=List.le_trans h k
theorem LeT.total (a b : ByteArray) : LeT a b ∨ LeT b a:=List.le_total _ _
theorem sortT_perm (l : List ByteArray) : (sortT l).Perm l:=by
 have h:=(List.mergeSort_perm (l.map fun s=>s.data.toList) (fun x y=>decide (x ≤ y))).map fun x=>(⟨x.toArray⟩ : ByteArray)
 have e : (l.map fun s=>s.data.toList).map (fun x=>(⟨x.toArray⟩ : ByteArray)) = l:=by
  rw [List.map_map]
  conv=>rhs; rw [← List.map_id l]
  rfl
 rw [e] at h
 exact h
/-- A list in order, of the same texts, is that of sort. -/
theorem sort_unique {l l' : List ByteArray} (hp : l'.Perm l) (hs : l'.Pairwise LeT) : l' = sortT l:=by
 have h1 : (l'.map fun s=>s.data.toList).Perm ((l.map fun s=>s.data.toList).mergeSort fun x y=>decide (x ≤ y)):=(hp.map _).trans (List.mergeSort_perm _ _).symm
 have h2 : (l'.map fun s=>s.data.toList).Pairwise fun x y=>x ≤ y:=List.pairwise_map.2 hs
 have h3 : ((l.map fun s=>s.data.toList).mergeSort fun x y=>decide (x ≤ y)).Pairwise fun x y=>x ≤ y:=by
  have:=List.pairwise_mergeSort (le:=fun (x y : List UInt8)=>decide (x ≤ y)) (fun a b c h k=>by simp only [decide_eq_true_eq] at h k ⊢; exact List.le_trans h k) (fun a b=>by simpa using List.le_total a b) (l.map fun s=>s.data.toList)
  exact this.imp fun h=>by simpa using h
 have e:=h1.eq_of_pairwise (fun a b _ _ h k=>List.le_antisymm h k) h2 h3
 unfold sortT
 rw [← e,List.map_map]
 conv=>lhs; rw [← List.map_id l']
 rfl
/-- The first so many are in order. -/
def SortTo (l : List ByteArray) (i : Nat) : Prop:=∀ a b x y,a < b → b < i → l[a]? = some x → l[b]? = some y → LeT x y
/-- But the one at k the first so many are in order, and what stands behind it is no less. -/
def InsI (l : List ByteArray) (i k : Nat) : Prop:=∀ a b x y,a < b → b ≤ i → b ≠ k → l[a]? = some x → l[b]? = some y → LeT x y
section
variable {l : List ByteArray} {i k : Nat} {u v : ByteArray}
theorem ins_start (h : SortTo l i) : InsI l i i:=fun a b x y h1 h2 h3=>h a b x y h1 (by omega)
theorem ins_zero (h : InsI l i 0) : SortTo l (i + 1):=fun a b x y h1 h2=>h a b x y h1 (by omega) (by omega)
theorem ins_done (h : InsI l i k) (hk : 0 < k) (hu : l[k - 1]? = some u) (hv : l[k]? = some v) (hl : LeT u v) : SortTo l (i + 1):=fun a b x y h1 h2 hx hy=>by
 by_cases e : b = k
 ·subst e
  rw [hv] at hy
  cases hy
  by_cases e2 : a = b - 1
  ·subst e2
   rw [hu] at hx
   cases hx
   exact hl
  ·exact (h a (b - 1) x u (by omega) (by omega) (by omega) hx hu).trans hl
 ·exact h a b x y h1 (by omega) e hx hy
theorem swap_at (hk : 0 < k) (hv : l[k]? = some v) (j : Nat) : ((l.set k u).set (k - 1) v)[j]? = if j = k - 1 then some v else if j = k then some u else l[j]?:=by
 have hl : k < l.length:=(List.getElem?_eq_some_iff.1 hv).1
 rw [List.getElem?_set,List.length_set,List.getElem?_set]
 by_cases e1 : k - 1 = j
 ·rw [if_pos e1,if_pos (by omega),if_pos e1.symm]
 ·rw [if_neg e1]
  by_cases e2 : k = j
  ·rw [if_pos e2,if_pos hl,if_neg (by omega),if_pos e2.symm]
  ·rw [if_neg e2,if_neg (by omega),if_neg (by omega)]
theorem ins_swap (h : InsI l i k) (hk : 0 < k) (hki : k ≤ i) (hu : l[k - 1]? = some u) (hv : l[k]? = some v) (hl : LeT v u) : InsI ((l.set k u).set (k - 1) v) i (k - 1):=fun a b x y h1 h2 h3 hx hy=>by
 rw [swap_at hk hv] at hx hy
 rw [if_neg h3] at hy
 by_cases eb : b = k
 ·rw [if_pos eb] at hy
  cases hy
  by_cases ea : a = k - 1
  ·rw [if_pos ea] at hx
   cases hx
   exact hl
  ·rw [if_neg ea,if_neg (by omega)] at hx
   exact h a (k - 1) x u (by omega) (by omega) (by omega) hx hu
 ·rw [if_neg eb] at hy
  by_cases ea : a = k - 1
  ·rw [if_pos ea] at hx
   cases hx
   exact h k b v y (by omega) h2 eb hv hy
  ·rw [if_neg ea] at hx
   by_cases ea2 : a = k
   ·rw [if_pos ea2] at hx
    cases hx
    exact h (k - 1) b u y (by omega) h2 eb hu hy
   ·rw [if_neg ea2] at hx
    exact h a b x y h1 h2 eb hx hy
theorem swap_perm (hk : 0 < k) (hu : l[k - 1]? = some u) (hv : l[k]? = some v) : ((l.set k u).set (k - 1) v).Perm l:=by
 obtain ⟨h1,rfl⟩:=List.getElem?_eq_some_iff.1 hu
 obtain ⟨h2,rfl⟩:=List.getElem?_eq_some_iff.1 hv
 exact List.set_set_perm h2 h1
theorem sort_all (h : SortTo l l.length) : l.Pairwise LeT:=List.pairwise_iff_getElem.2 fun a b ha hb hab=>h a b _ _ hab hb (List.getElem?_eq_getElem ha) (List.getElem?_eq_getElem hb)
end
end Go.Proofs.YtpboohfofodeeaaGreatDoor
/- Files, plainly: what Stat and List answer at a spot (conditions: none). -/
namespace Go.Proofs.YtpboohfofodeeaaGreatDoor
open Go.RowKit Go.Maps
def tE : ByteArray:=⟨#[]⟩
/-- Stat, or List, of a path. -/
def oAt (k : Int) (p : ByteArray) : OpA:=⟨k,p,tE,tE,0,0,tE⟩
theorem oAt_may {k : Int} {p : ByteArray} (hk : k = 18 ∨ k = 20) (h : (splitP p).2 = 0) : mayS (oAt k p) = 0:=by
 have h1 : (oAt k p).kind = k:=rfl
 have h2 : (oAt k p).path = p:=rfl
 unfold mayS
 rw [h1,h2,if_neg (by omega),if_neg (by simpa using h)]
 unfold mayK
 rw [if_neg (by omega),if_neg (by omega),if_neg (by omega),if_neg (by omega),if_neg (by omega)]
section
variable {fs : FS}
/-- A slot's path leads to it, a link let in. -/
theorem path_walk_any (hR : RightFS fs) {H : Int → List SlotK} (hH : SlotsP fs.G H) {s : SlotK} {i : Int} (hs : fs.G s = some i) {a : NodeA} (ha : fs.N i = some a) (fo : Bool) (hf : fo = true → a.nd.kind ≠ 3) : walkS fs (pathT H s) fo = ⟨s.1.1,s.1.2,i,0⟩:=by
 obtain ⟨ns,hw,hp,hl,hz⟩:=path_names hR hH hs
 have hn:=hR.named s i hs
 have hnm : ∀ x ∈ ns ++ [s.1.2],nameB x = true:=fun x hx=>by
  rcases List.mem_append.1 hx with hx | hx
  ·exact way_named hR hw x hx
  ·rw [List.mem_singleton.1 hx]; exact hn.2.2.2
 have hsp:=split_join (ns:=ns ++ [s.1.2]) (by simp) hnm hl (by rw [← hp]; exact hz)
 rw [← hp] at hsp
 unfold walkS
 rw [hsp,way_walk hR hw [s.1.2] (by simp) hn.1]
 exact walkIn_is (name_up hn.2.2.2) (atG_at.trans hs) ha (fun x=>by
  rcases x.2 with h | h
  ·exact h rfl
  ·exact hf h x.1) rfl
theorem root_walk_any (fo : Bool) : walkS fs slash fo = ⟨0,⟨#[]⟩,1,0⟩:=by
 have h : splitP slash = ([],0):=by unfold splitP slash; simp only [toList_eq]; decide
 unfold walkS
 rw [h]
 rfl
/-- Where a spot's path leads. -/
theorem spot_walk (hR : RightFS fs) {H : Int → List SlotK} (hH : SlotsP fs.G H) {x : Spot} (hx : spLive fs x) : (splitP (spText H x)).2 = 0 ∧ ∃ a,fs.N (spIno fs x) = some a ∧ (walkS fs (spText H x) false).code = 0 ∧ (walkS fs (spText H x) false).ino = spIno fs x ∧ (a.nd.kind = 2 → (walkS fs (spText H x) true).code = 0 ∧ (walkS fs (spText H x) true).ino = spIno fs x):=by
 cases x with
 | none=>
  obtain ⟨a,ha,_⟩:=hR.rooted.2
  refine ⟨root_walk (fs:=fs).1,a,ha,?_⟩
  show (walkS fs slash false).code = 0 ∧ (walkS fs slash false).ino = 1 ∧ (a.nd.kind = 2 → (walkS fs slash true).code = 0 ∧ (walkS fs slash true).ino = 1)
  rw [root_walk_any,root_walk_any]
  exact ⟨rfl,rfl,fun _=>⟨rfl,rfl⟩⟩
 | some s=>
  obtain ⟨i,hi⟩:=Option.isSome_iff_exists.1 hx
  obtain ⟨a,ha⟩:=Option.ne_none_iff_exists'.1 (hR.named s i hi).2.2.1
  have e : spIno fs (some s) = i:=by simp [spIno,hi]
  rw [e]
  refine ⟨(path_walk hR hH hi).1,a,ha,?_⟩
  show (walkS fs (pathT H s) false).code = 0 ∧ (walkS fs (pathT H s) false).ino = i ∧ (a.nd.kind = 2 → (walkS fs (pathT H s) true).code = 0 ∧ (walkS fs (pathT H s) true).ino = i)
  rw [(path_walk hR hH hi).2]
  refine ⟨rfl,rfl,fun hk=>?_⟩
  rw [path_walk_any hR hH hi ha true (fun _=>by omega)]
  exact ⟨rfl,rfl⟩
theorem DoesR.node_at {fs' : FS} {o : OpA} {p : AnsP} (h : DoesR fs o p fs') (hk : o.kind = 18 ∨ o.kind = 20) (h0 : (walkS fs o.path (followsB o.kind)).code = 0) (hi : (walkS fs o.path (followsB o.kind)).ino ≠ 0) : ∃ a,fs.N (walkS fs o.path (followsB o.kind)).ino = some a ∧ NodeR fs (walkS fs o.path (followsB o.kind)).ino a o p fs':=by
 rcases h with ⟨h1,_⟩ | ⟨_,⟨h1,_⟩ | ⟨_,h1,_⟩ | ⟨sl,a,hat,h⟩⟩
 ·exact absurd h0 h1
 ·omega
 ·exact absurd h1 hi
 ·rcases h with ⟨h1,_⟩ | ⟨h1,_⟩ | ⟨h1,_⟩ | ⟨h1,_⟩ | ⟨_,h1⟩
  ·omega
  ·omega
  ·omega
  ·omega
  ·exact ⟨a,hat.node,h1⟩
theorem sh_stat {n : Nat} {l l' : List (ByteArray × ByteArray)} {p : AnsP} {path : ByteArray} {ino : Int} {a : NodeA} (h : Mid n fs l) (hR : RightFS fs) (hs : (splitP path).2 = 0) (h0 : (walkS fs path false).code = 0) (hi : (walkS fs path false).ino = ino) (hn : ino ≠ 0) (ha : fs.N ino = some a) (hd : DoR l (oAt 20 path) p l') : p.code = 0 ∧ p.nd = a.nd:=by
 obtain ⟨p1,fs',hds,hc,hp⟩:=mid_right h hR (oAt_may (.inr rfl) hs) hd
 have hw : walkS fs (oAt 20 path).path (followsB (oAt 20 path).kind) = walkS fs path false:=rfl
 obtain ⟨b,hb,h1⟩:=hds.node_at (.inr rfl) (by rw [hw]; exact h0) (by rw [hw,hi]; exact hn)
 rw [hw,hi] at hb h1
 rw [ha] at hb
 cases hb
 have hk : (oAt 20 path).kind = 20:=rfl
 rcases h1 with ⟨k,_⟩ | ⟨k,_⟩ | ⟨k,_⟩ | ⟨k,_⟩ | ⟨k,_⟩ | ⟨k,_⟩ | ⟨k,_⟩ | ⟨k,_⟩ | ⟨_,_,h4⟩
 all_goals first | omega | skip
 have h5 : p1.code = 0:=by rw [h4]; rfl
 obtain ⟨rfl,_⟩:=hp h5
 rw [h4]
 exact ⟨rfl,rfl⟩
theorem sh_list {n : Nat} {l l' : List (ByteArray × ByteArray)} {p : AnsP} {path : ByteArray} {ino : Int} {a : NodeA} (h : Mid n fs l) (hR : RightFS fs) (hs : (splitP path).2 = 0) (h0 : (walkS fs path true).code = 0) (hi : (walkS fs path true).ino = ino) (hn : ino ≠ 0) (ha : fs.N ino = some a) (h2 : a.nd.kind = 2) (hd : DoR l (oAt 18 path) p l') : ∃ ns,NamesIn fs.G ino (fun _=>True) ns ∧ p.names = sortT ns:=by
 obtain ⟨p1,fs',hds,hc,hp⟩:=mid_right h hR (oAt_may (.inl rfl) hs) hd
 have hw : walkS fs (oAt 18 path).path (followsB (oAt 18 path).kind) = walkS fs path true:=rfl
 obtain ⟨b,hb,h1⟩:=hds.node_at (.inl rfl) (by rw [hw]; exact h0) (by rw [hw,hi]; exact hn)
 rw [hw,hi] at hb h1
 rw [ha] at hb
 cases hb
 have hk : (oAt 18 path).kind = 18:=rfl
 rcases h1 with ⟨k,_⟩ | ⟨k,_⟩ | ⟨k,_⟩ | ⟨k,_⟩ | ⟨k,_⟩ | ⟨k,_⟩ | ⟨_,_,⟨k,_⟩ | ⟨_,ns,h3,h4⟩⟩ | ⟨k,_⟩ | ⟨k,_⟩
 all_goals first | omega | skip
 have h5 : p1.code = 0:=by rw [h4]; rfl
 obtain ⟨rfl,_⟩:=hp h5
 exact ⟨ns,h3,by rw [h4]⟩
theorem slots_of {d : Int} {P : SlotK → Prop} : ∀ m : List ByteArray,(∀ n ∈ m,∃ s : SlotK,P s ∧ s.1.1 = d ∧ s.1.2 = n) → ∃ ks : List SlotK,ks.map (fun c=>c.1.2) = m ∧ ∀ c ∈ ks,P c ∧ c.1.1 = d
 | [],_=>⟨[],rfl,fun c hc=>by cases hc⟩
 | n :: t,h=>by
  obtain ⟨s,h1,h2,h3⟩:=h n (by simp)
  obtain ⟨ks,h4,h5⟩:=slots_of t fun x hx=>h x (List.mem_cons_of_mem _ hx)
  refine ⟨s :: ks,by rw [List.map_cons,h4,h3],fun c hc=>?_⟩
  rcases List.mem_cons.1 hc with rfl | hc
  ·exact ⟨h1,h2⟩
  ·exact h5 c hc
/-- The names that List tells are the slots in the Dir. -/
theorem kids_of {d : Int} {l : List ByteArray} (h : NamesIn fs.G d (fun _=>True) l) : ∃ ks,KidsOf fs d ks ∧ ks.map (fun c=>c.1.2) = sortT l:=by
 have hp:=sortT_perm l
 obtain ⟨ks,h1,h2⟩:=slots_of (d:=d) (P:=fun s=>spLive fs (some s)) (sortT l) fun n hn=>by
  obtain ⟨s,i,hs,_,hd,e⟩:=(h.mem n).1 (hp.mem_iff.1 hn)
  exact ⟨s,by simp [spLive,hs],hd,e⟩
 refine ⟨ks,⟨?_,fun c=>⟨fun hc=>h2 c hc,fun ⟨hl,hd⟩=>?_⟩⟩,h1⟩
 ·have hn : (ks.map fun c=>c.1.2).Nodup:=by rw [h1]; exact hp.nodup_iff.2 h.nodup
  exact (List.pairwise_map.1 hn).imp fun h e=>h (by rw [e])
 ·obtain ⟨i,hi⟩:=Option.isSome_iff_exists.1 hl
  have hm : c.1.2 ∈ ks.map fun c=>c.1.2:=by
   rw [h1]
   exact hp.mem_iff.2 ((h.mem _).2 ⟨c,i,hi,trivial,hd,rfl⟩)
  obtain ⟨c',hc',e⟩:=List.mem_map.1 hm
  have : c' = c:=Subtype.ext (Prod.ext ((h2 c' hc').2.trans hd.symm) e)
  exact this ▸ hc'
end
end Go.Proofs.YtpboohfofodeeaaGreatDoor
/- law16: FilesShow, plainly (conditions: none). -/
namespace Go.Proofs.YtpboohfofodeeaaGreatDoor
open Go.RowKit Go.Maps
section
variable {fs : FS}
theorem node_ne (hC : Canon fs) {k : Int} {a : NodeA} (ha : fs.N k = some a) : k ≠ 0:=by
 rintro rfl
 have h:=(hC.node _ a ha).1
 unfold KK.ok keyRight at h
 omega
/-- What is asked of a spot, and what is met. -/
theorem shw_step {n : Nat} {L : List (ByteArray × ByteArray)} (hG : Good fs) (hM : Mid n fs L) {H : Int → List SlotK} (hH : SlotsP fs.G H) {ss ws : List Spot} {x : Spot} (hI : BfsI fs ss (x :: ws)) {p : AnsP} {l' : List (ByteArray × ByteArray)} (hd : DoR L (oAt 20 (spText H x)) p l') :
 p.code = 0 ∧ (p.nd.kind ≠ 2 → BfsI fs (ss ++ [x]) ws) ∧ (p.nd.kind = 2 → ∀ p' l'',DoR L (oAt 18 (spText H x)) p' l'' → ∃ ks : List Spot,BfsI fs (ss ++ [x]) (ws ++ ks) ∧ ks.map (spText H) = p'.names.map fun nm=>if spText H x = slash then slash ++ nm else spText H x ++ slash ++ nm):=by
 have hR:=hG.right
 have hC:=hG.canon
 have hx:=hI.live x (by simp)
 have hN:=hC.good
 obtain ⟨hs,a,ha,w0,wi,w2⟩:=spot_walk hR hH hx
 have hne:=node_ne hC ha
 obtain ⟨h1,h2⟩:=sh_stat hM hR hs w0 wi hne ha hd
 refine ⟨h1,fun hk=>hI.leaf fun ⟨b,hb,hbk⟩=>?_,fun hk p' l'' hd'=>?_⟩
 ·rw [ha] at hb
  cases hb
  rw [h2] at hk
  exact hk hbk
 ·rw [h2] at hk
  obtain ⟨v0,vi⟩:=w2 hk
  have hdir : isDir fs (spIno fs x):=⟨a,ha,hk⟩
  obtain ⟨ns,hns,he⟩:=sh_list hM hR hs v0 vi hne ha hk hd'
  obtain ⟨ks,hks,hm⟩:=kids_of hns
  refine ⟨ks.map some,hI.dir hR hN hdir hks,?_⟩
  rw [he,← hm,List.map_map,List.map_map]
  refine List.map_congr_left fun c hc=>?_
  obtain ⟨hl,hcd⟩:=(hks.2 c).1 hc
  show spText H (some c) = if spText H x = slash then slash ++ c.1.2 else spText H x ++ slash ++ c.1.2
  rw [kid_text hR hN hH hx hdir hl hcd]
  by_cases e : x = none
  ·rw [if_pos e,if_pos ((text_root hR hH hx).2 e)]
  ·rw [if_neg e,if_neg (fun h=>e ((text_root hR hH hx).1 h))]
theorem shw_end (hG : Good fs) {H : Int → List SlotK} (hH : SlotsP fs.G H) {ss : List Spot} (hI : BfsI fs ss []) {m : List ByteArray} (hp : m.Perm (ss.map (spText H))) (hs : m.Pairwise LeT) {l : List SlotK} (hn : l.Nodup) (hl : ∀ s : SlotK,s ∈ l ↔ (fs.G s).isSome) : m = sortT (slash :: l.map (pathT H)):=
 sort_unique (hp.trans (hI.perm hG.right hH hn hl)) hs
end
end Go.Proofs.YtpboohfofodeeaaGreatDoor
