/- What is unlike in two lists of items whose keys rise, plainly (conditions: none). -/
import Derived.Test.YtpboohfofodeeaaGreatDoorMv01
namespace Go.Proofs.YtpboohfofodeeaaGreatDoor
open Go.RowKit Go.Maps
/-- What became of a key. -/
structure ChgA where
 key:ByteArray
 had:Bool
 has:Bool
 old:ByteArray
 new:ByteArray
def ChgOk (l m:List (ByteArray × ByteArray)) (x:ChgA):Prop:=((x.key,x.old)∈l∧(x.key,x.old) ∉ m)∨((∀ v,(x.key,v) ∉ l)∧∃ v,(x.key,v)∈m)
/-- Keys that rise. -/
def RiseL (l:List (ByteArray × ByteArray)):Prop:=l.Pairwise fun a b=>btLt a.1 b.1
theorem rise_lt {l:List (ByteArray × ByteArray)} (h:RiseL l) {a b:Nat} {x y:ByteArray × ByteArray} (hab:a < b) (hx:l[a]? = some x) (hy:l[b]? = some y):btLt x.1 y.1:=by
 obtain ⟨h1,rfl⟩:=List.getElem?_eq_some_iff.1 hx
 obtain ⟨h2,rfl⟩:=List.getElem?_eq_some_iff.1 hy
 exact List.pairwise_iff_getElem.1 h a b h1 h2 hab
theorem rise_one {l:List (ByteArray × ByteArray)} (h:RiseL l) {a b:Nat} {x y:ByteArray × ByteArray} (hx:l[a]? = some x) (hy:l[b]? = some y) (he:x.1=y.1):x=y:=by
 rcases Nat.lt_trichotomy a b with h1 | rfl | h1
 ·exact absurd (rise_lt h h1 hx hy) (by rw [he]; exact btLt_irrefl _)
 ·rw [hx] at hy
  exact Option.some.inj hy
 ·exact absurd (rise_lt h h1 hy hx) (by rw [he]; exact btLt_irrefl _)
theorem rise_front {m:List (ByteArray × ByteArray)} (h:RiseL m) {t:ByteArray} {k b:Nat} {y:ByteArray × ByteArray} (hb:∀ y,m[k]? = some y→btLt t y.1) (hkb:k≤b) (hy:m[b]? = some y):btLt t y.1:=by
 have hlt:b < m.length:=(List.getElem?_eq_some_iff.1 hy).1
 have hk:m[k]? = some m[k]:=List.getElem?_eq_getElem (by omega)
 rcases Nat.lt_or_ge k b with h1 | h1
 ·exact btLt_trans (hb _ hk) (rise_lt h h1 hk hy)
 ·obtain rfl:k=b:=by omega
  exact hb _ hy
theorem mem_at {l:List (ByteArray × ByteArray)} {x:ByteArray × ByteArray} (h:x∈l):∃ a:Nat,l[a]? = some x:=List.mem_iff_getElem?.1 h
theorem at_mem {l:List (ByteArray × ByteArray)} {x:ByteArray × ByteArray} {a:Nat} (h:l[a]? = some x):x∈l:=List.mem_iff_getElem?.2 ⟨a,h⟩
/-- What was told when so many of each list were met. -/
structure DifI (l m:List (ByteArray × ByteArray)) (i k:Nat) (out:List ChgA):Prop where
 left:∀ a b x y,a < i→k≤b→l[a]? = some x→m[b]? = some y→btLt x.1 y.1
 right:∀ a b x y,i≤a→b < k→l[a]? = some x→m[b]? = some y→btLt y.1 x.1
 ok:∀ x∈out,ChgOk l m x
 nodup:(out.map ChgA.key).Nodup
 past:∀ x∈out,(∃ a v,a < i∧l[a]? = some (x.key,v))∨∃ b v,b < k∧m[b]? = some (x.key,v)
section
variable {l m:List (ByteArray × ByteArray)} {i k:Nat} {out:List ChgA} {x y:ByteArray × ByteArray}
theorem DifI.start (l m:List (ByteArray × ByteArray)):DifI l m 0 0 []:=
 ⟨fun _ _ _ _ h=>by omega,fun _ _ _ _ _ h=>by omega,fun _ h=>by simp at h,List.nodup_nil,fun _ h=>by simp at h⟩
theorem DifI.more (h:DifI l m i k out) {i' k':Nat} {c:ChgA} (hi:i≤i') (hk:k≤k')
 (h1:∀ a b x y,a < i'→k'≤b→l[a]? = some x→m[b]? = some y→btLt x.1 y.1) (h2:∀ a b x y,i'≤a→b < k'→l[a]? = some x→m[b]? = some y→btLt y.1 x.1)
 (hc:ChgOk l m c) (hl:∀ a x,a < i→l[a]? = some x→x.1≠c.key) (hm:∀ b y,b < k→m[b]? = some y→y.1≠c.key)
 (hp:(∃ a v,a < i'∧l[a]? = some (c.key,v))∨∃ b v,b < k'∧m[b]? = some (c.key,v)):DifI l m i' k' (out++[c]) where
 left:=h1
 right:=h2
 ok z hz:=by
  rcases List.mem_append.1 hz with hz | hz
  ·exact h.ok z hz
  ·rw [List.mem_singleton.1 hz]; exact hc
 nodup:=by
  rw [List.map_append,List.nodup_append]
  refine ⟨h.nodup,by simp,fun a ha b hb=>?_⟩
  obtain ⟨z,hz,rfl⟩:=List.mem_map.1 ha
  have hb:b=c.key:=by simpa using hb
  rw [hb]
  rcases h.past z hz with ⟨a,v,h3,h4⟩ | ⟨b,v,h3,h4⟩
  ·exact hl a _ h3 h4
  ·exact hm b _ h3 h4
 past z hz:=by
  rcases List.mem_append.1 hz with hz | hz
  ·rcases h.past z hz with ⟨a,v,h3,h4⟩ | ⟨b,v,h3,h4⟩
   ·exact .inl ⟨a,v,by omega,h4⟩
   ·exact .inr ⟨b,v,by omega,h4⟩
  ·rw [List.mem_singleton.1 hz]; exact hp
/-- The first list's key comes first. -/
theorem DifI.one (h:DifI l m i k out) (hl:RiseL l) (hm:RiseL m) (ha:l[i]? = some x) (hb:∀ y,m[k]? = some y→btLt x.1 y.1):DifI l m (i+1) k (out++[⟨x.1,true,false,x.2,⟨#[]⟩⟩]):=by
 have hf:∀ b y,k≤b→m[b]? = some y→btLt x.1 y.1:=fun b y h1 h2=>rise_front hm hb h1 h2
 refine h.more (Nat.le_succ i) (Nat.le_refl k) (fun a b x' y h1 h2 h3 h4=>?_) (fun a b x' y h1 h2=>h.right a b x' y (by omega) h2) (.inl ⟨at_mem ha,fun hx=>?_⟩) (fun a x' h1 h2 e=>?_) (fun b y h1 h2 e=>?_) (.inl ⟨i,x.2,by omega,ha⟩)
 ·by_cases e:a=i
  ·subst e
   rw [ha] at h3
   cases h3
   exact hf b y h2 h4
  ·exact h.left a b x' y (by omega) h2 h3 h4
 ·obtain ⟨b,hb'⟩:=mem_at hx
  rcases Nat.lt_or_ge b k with h1 | h1
  ·exact btLt_irrefl x.1 (h.right i b x (x.1,x.2) (Nat.le_refl _) h1 ha hb')
  ·exact btLt_irrefl x.1 (hf b (x.1,x.2) h1 hb')
 ·have e:x'.1=x.1:=e
  have:=rise_lt hl h1 h2 ha
  rw [e] at this
  exact btLt_irrefl _ this
 ·have e:y.1=x.1:=e
  have:=h.right i b _ _ (Nat.le_refl _) h1 ha h2
  rw [e] at this
  exact btLt_irrefl _ this
/-- The second one's does. -/
theorem DifI.two (h:DifI l m i k out) (hl:RiseL l) (hm:RiseL m) (hb:m[k]? = some y) (ha:∀ x,l[i]? = some x→btLt y.1 x.1):DifI l m i (k+1) (out++[⟨y.1,false,true,⟨#[]⟩,y.2⟩]):=by
 have hf:∀ a x,i≤a→l[a]? = some x→btLt y.1 x.1:=fun a x h1 h2=>rise_front hl ha h1 h2
 refine h.more (Nat.le_refl i) (Nat.le_succ k) (fun a b x y h1 h2=>h.left a b x y h1 (by omega)) (fun a b x y' h1 h2 h3 h4=>?_) (.inr ⟨fun v hx=>?_,y.2,at_mem hb⟩) (fun a x h1 h2 e=>?_) (fun b y' h1 h2 e=>?_) (.inr ⟨k,y.2,by omega,hb⟩)
 ·by_cases e:b=k
  ·subst e
   rw [hb] at h4
   cases h4
   exact hf a x h1 h3
  ·exact h.right a b x y' h1 (by omega) h3 h4
 ·obtain ⟨a,ha'⟩:=mem_at (show (y.1,v)∈l from hx)
  rcases Nat.lt_or_ge a i with h1 | h1
  ·exact btLt_irrefl y.1 (h.left a k (y.1,v) y h1 (Nat.le_refl _) ha' hb)
  ·exact btLt_irrefl y.1 (hf a (y.1,v) h1 ha')
 ·have e:x.1=y.1:=e
  have:=h.left a k _ _ h1 (Nat.le_refl _) h2 hb
  rw [e] at this
  exact btLt_irrefl _ this
 ·have e:y'.1=y.1:=e
  have:=rise_lt hm h1 h2 hb
  rw [e] at this
  exact btLt_irrefl _ this
theorem DifI.steps (h:DifI l m i k out) (hl:RiseL l) (hm:RiseL m) (ha:l[i]? = some x) (hb:m[k]? = some y) (he:x.1=y.1) :
 (∀ a b x' y',a < i+1→k+1≤b→l[a]? = some x'→m[b]? = some y'→btLt x'.1 y'.1)∧∀ a b x' y',i+1≤a→b < k+1→l[a]? = some x'→m[b]? = some y'→btLt y'.1 x'.1:=by
 refine ⟨fun a b x' y' h1 h2 h3 h4=>?_,fun a b x' y' h1 h2 h3 h4=>?_⟩
 ·by_cases e:a=i
  ·subst e
   rw [ha] at h3
   cases h3
   rw [he]
   exact rise_lt hm h2 hb h4
  ·exact h.left a b x' y' (by omega) (by omega) h3 h4
 ·by_cases e:b=k
  ·subst e
   rw [hb] at h4
   cases h4
   rw [← he]
   exact rise_lt hl h1 ha h3
  ·exact h.right a b x' y' (by omega) (by omega) h3 h4
/-- Both have the key, with one value. -/
theorem DifI.same (h:DifI l m i k out) (hl:RiseL l) (hm:RiseL m) (ha:l[i]? = some x) (hb:m[k]? = some y) (he:x.1=y.1):DifI l m (i+1) (k+1) out:=
 ⟨(h.steps hl hm ha hb he).1,(h.steps hl hm ha hb he).2,h.ok,h.nodup,fun z hz=>by
  rcases h.past z hz with ⟨a,v,h3,h4⟩ | ⟨b,v,h3,h4⟩
  ·exact .inl ⟨a,v,by omega,h4⟩
  ·exact .inr ⟨b,v,by omega,h4⟩⟩
/-- With two. -/
theorem DifI.both (h:DifI l m i k out) (hl:RiseL l) (hm:RiseL m) (ha:l[i]? = some x) (hb:m[k]? = some y) (he:x.1=y.1) (hv:x.2≠y.2):DifI l m (i+1) (k+1) (out++[⟨x.1,true,true,x.2,y.2⟩]):=by
 refine h.more (Nat.le_succ i) (Nat.le_succ k) (h.steps hl hm ha hb he).1 (h.steps hl hm ha hb he).2 (.inl ⟨at_mem ha,fun hx=>?_⟩) (fun a x' h1 h2 e=>?_) (fun b y' h1 h2 e=>?_) (.inl ⟨i,x.2,by omega,ha⟩)
 ·obtain ⟨b,hb'⟩:=mem_at hx
  have:=rise_one hm hb' hb he
  rw [← this] at hv
  exact hv rfl
 ·have e:x'.1=x.1:=e
  have:=rise_lt hl h1 h2 ha
  rw [e] at this
  exact btLt_irrefl _ this
 ·have e:y'.1=x.1:=e
  have:=rise_lt hm h1 h2 hb
  rw [e,he] at this
  exact btLt_irrefl _ this
/-- A list and itself. -/
theorem dif_self (h:∀ x∈out,ChgOk l l x):out=[]:=by
 cases out with
 | nil=>rfl
 | cons c t=>
  rcases h c (by simp) with ⟨h1,h2⟩ | ⟨h1,v,h2⟩
  ·exact absurd h1 h2
  ·exact absurd h2 (h1 v)
end
end Go.Proofs.YtpboohfofodeeaaGreatDoor
/- Slots of names (conditions: none). -/
namespace Go.Proofs.YtpboohfofodeeaaGreatDoor
open Go.RowKit Go.Maps
theorem slotAt_of {sl:SlotK} {d:Int} {nm:ByteArray} (h:sl.1=(d,nm)):slotAt d nm=some sl:=by
 have hk:okSl (d,nm):=h ▸ sl.2
 unfold slotAt
 rw [dif_pos hk]
 exact congrArg some (Subtype.ext h.symm)
theorem slotAt_is {sl:SlotK} {d:Int} {nm:ByteArray} (h:slotAt d nm=some sl):sl.1=(d,nm):=by
 unfold slotAt at h
 split at h
 ·cases h; rfl
 ·cases h
theorem atG_slot {G:SlotK→Option Int} {sl:SlotK} {d:Int} {nm:ByteArray} (h:sl.1=(d,nm)):atG G d nm=G sl:=by
 unfold atG
 rw [slotAt_of h]
 rfl
end Go.Proofs.YtpboohfofodeeaaGreatDoor
/- files: what operations leave, if they were done, is right (conditions: none). -/
namespace Go.Proofs.YtpboohfofodeeaaGreatDoor
open Go.RowKit Go.Maps
theorem remK_at {κ α:Type} {f:κ→Option α} {k:κ}:remK f k k=none:=by unfold remK; rw [if_pos rfl]
theorem remK_ne {κ α:Type} {f:κ→Option α} {k x:κ} (h:x≠k):remK f k x=f x:=by unfold remK; rw [if_neg h]
theorem rem_ne {α:Type} {f:Int→Option α} {k x:Int} (h:x≠k):rem f k x=f x:=by unfold rem; rw [if_neg h]
section
variable {G G':SlotK→Option Int} {H H':Int→List SlotK} {k:Int} {s:SlotK}
theorem len_less (h:SlotsP G H) (h':SlotsP G' H') (hs:G' s≠some k) (e:∀ x,G x=some k↔x=s∨G' x=some k):(H k).length=(H' k).length+1:=len_more h' h hs e
theorem slots_one (h:SlotsP G H) (h':SlotsP G' H') (e:∀ x,G x=some k↔G' x=some k):H' k=H k:=by
 have go:∀ {l l':List SlotK},l.Pairwise slLt→l'.Pairwise slLt→(∀ x,x∈l↔x∈l')→l=l':=by
  intro l
  induction l with
  | nil=>
   intro l' _ _ hm
   cases l' with
   | nil=>rfl
   | cons y t=>have:=(hm y).2 (by simp); simp at this
  | cons x r ih=>
   intro l' h1 h2 hm
   cases l' with
   | nil=>have:=(hm x).1 (by simp); simp at this
   | cons y t=>
    obtain ⟨h3,h4⟩:=List.pairwise_cons.1 h1
    obtain ⟨h5,h6⟩:=List.pairwise_cons.1 h2
    have e:x=y:=by
     rcases List.mem_cons.1 ((hm x).1 (by simp)) with e | hx
     ·exact e
     ·rcases List.mem_cons.1 ((hm y).2 (by simp)) with e | hy
      ·exact e.symm
      ·exact absurd (sl_trans (h5 x hx) (h3 y hy)) (sl_irrefl _)
    subst e
    rw [ih h4 h6 fun z=>?_]
    constructor
    ·intro hz
     rcases List.mem_cons.1 ((hm z).1 (by simp [hz])) with rfl | hz'
     ·exact absurd (h3 z hz) (sl_irrefl _)
     ·exact hz'
    ·intro hz
     rcases List.mem_cons.1 ((hm z).2 (by simp [hz])) with rfl | hz'
     ·exact absurd (h5 z hz) (sl_irrefl _)
     ·exact hz'
 exact go (h' k).2.2 (h k).2.2 fun x=>(((h' k).2.1 x).trans (e x).symm).trans ((h k).2.1 x).symm
theorem pathK_congr (h:SlotsP G H) (he:∀ x,G x≠none→H' x.1.1=H x.1.1):∀ (f:Nat) (x:SlotK) (p:ByteArray),G x≠none→pathK H' f x p=pathK H f x p
 | 0,x,p,_=>rfl
 | f+1,x,p,hx=>by
  unfold pathK
  rw [he x hx]
  split
  ·rfl
  ·cases hH:H x.1.1 with
   | nil=>rfl
   | cons a t=>
    simp only
    exact pathK_congr h he f a _ (by rw [((h x.1.1).2.1 a).1 (by rw [hH]; simp)]; exact fun e=>by cases e)
end
section
variable {fs:FS} {ino:Int} {a a':NodeA}
theorem right_node (h:RightFS fs) (ha:fs.N ino=some a) (h1:a'.nd.kind=a.nd.kind) (h2:a'.nd.links=a.nd.links) (h3:nodeOk a'):RightFS { fs with N:=upd fs.N ino a' }:=by
 have hold:∀ k b,fs.N k=some b→∃ c,upd fs.N ino a' k=some c∧c.nd.kind=b.nd.kind:=fun k b e=>by
  by_cases hk:k=ino
  ·subst hk
   rw [ha] at e
   cases e
   exact ⟨a',updI_at,h1⟩
  ·exact ⟨b,(updI_ne hk).trans e,rfl⟩
 refine ⟨⟨fun k b e=>?_,?_⟩,fun s i e=>?_,?_,fun k b e=>?_⟩
 ·rcases updI_some (show upd fs.N ino a' k=some b from e) with ⟨rfl,_⟩ | ⟨_,e⟩
  ·exact h.rooted.1 _ a ha
  ·exact h.rooted.1 k b e
 ·obtain ⟨b,hb,hk⟩:=h.rooted.2
  obtain ⟨c,hc,hk2⟩:=hold 1 b hb
  exact ⟨c,hc,hk2.trans hk⟩
 ·obtain ⟨⟨b,hb,hk⟩,h4,h5,h6⟩:=h.named s i e
  obtain ⟨c,hc,hk2⟩:=hold _ b hb
  obtain ⟨d,hd⟩:=Option.ne_none_iff_exists'.1 h5
  obtain ⟨x,hx,_⟩:=hold _ d hd
  exact ⟨⟨c,hc,hk2.trans hk⟩,h4,(by show upd fs.N ino a' i≠none; rw [hx]; exact fun h=>(by cases h)),h6⟩
 ·obtain ⟨H,hH,hL⟩:=h.linked
  refine ⟨H,hH,fun k b e=>?_⟩
  rcases updI_some (show upd fs.N ino a' k=some b from e) with ⟨rfl,rfl⟩ | ⟨_,e⟩
  ·exact ⟨fun hk=>by rw [h2]; exact (hL _ a ha).1 hk,(hL _ a ha).2⟩
  ·exact hL k b e
 ·rcases updI_some (show upd fs.N ino a' k=some b from e) with ⟨rfl,rfl⟩ | ⟨_,e⟩
  ·exact h3
  ·exact h.filled k b e
theorem dir_ne (h:RightFS fs) (ha:fs.N ino=some a) (hk:a.nd.kind≠2):∀ s i,fs.G s=some i→s.1.1≠ino:=fun s i e hs=>by
 obtain ⟨⟨b,hb,hk2⟩,_⟩:=h.named s i e
 rw [hs,ha] at hb
 cases hb
 exact hk hk2
theorem links_one (h:RightFS fs) (ha:fs.N ino=some a) (hl:a.nd.links=1) {s t:SlotK} (hs:fs.G s=some ino) (ht:fs.G t=some ino):s=t:=by
 obtain ⟨H,hH,hL⟩:=h.linked
 have h1:=(hL ino a ha).1 (h.named s ino hs).2.1
 rw [hl] at h1
 obtain ⟨x,hx⟩:=List.length_eq_one_iff.1 (by omega:(H ino).length=1)
 have hs':=((hH ino).2.1 s).2 hs
 have ht':=((hH ino).2.1 t).2 ht
 rw [hx] at hs' ht'
 rw [List.mem_singleton.1 hs',List.mem_singleton.1 ht']
theorem away_N (fs:FS) (s:SlotK) (ino:Int) (a:NodeA) {k:Int} (hk:k≠ino):(awayS fs s ino a).N k=fs.N k:=by
 unfold awayS
 simp only
 split
 ·exact rem_ne hk
 ·exact updI_ne hk
theorem away_at {fs:FS} {s:SlotK} {ino:Int} {a b:NodeA} (h:(awayS fs s ino a).N ino=some b):a.nd.links≠1∧b={ a with nd:={ a.nd with links:=a.nd.links - 1 } }:=by
 unfold awayS at h
 simp only at h
 by_cases h1:a.nd.links=1
 ·rw [if_pos h1] at h
  unfold rem at h
  rw [if_pos rfl] at h
  cases h
 ·rw [if_neg h1,updI_at] at h
  exact ⟨h1,(Option.some.inj h).symm⟩
theorem away_some {fs:FS} {s:SlotK} {ino k:Int} {a b:NodeA} (h:(awayS fs s ino a).N k=some b):(k=ino∧a.nd.links≠1∧b={ a with nd:={ a.nd with links:=a.nd.links - 1 } })∨(k≠ino∧fs.N k=some b):=by
 by_cases hk:k=ino
 ·subst hk
  exact .inl ⟨rfl,away_at h⟩
 ·rw [away_N fs s ino a hk] at h
  exact .inr ⟨hk,h⟩
/-- Something is taken away that nothing stands in. -/
theorem right_away (h:RightFS fs) {sl:SlotK} (hg:fs.G sl=some ino) (ha:fs.N ino=some a) (hE:∀ s i,fs.G s=some i→s.1.1≠ino):RightFS (awayS fs sl ino a):=by
 obtain ⟨H,hH,hL⟩:=h.linked
 have hn1:ino≠1:=(h.named sl ino hg).2.1
 have hG:(awayS fs sl ino a).G=remK fs.G sl:=rfl
 obtain ⟨H',hH'⟩:=slots_make (G:=(awayS fs sl ino a).G) fun i=>⟨H i,fun s e=>((hH i).2.1 s).2 (remK_ok (by rw [hG] at e; exact e))⟩
 have hne:∀ k,k≠ino→∀ x,fs.G x=some k↔(awayS fs sl ino a).G x=some k:=fun k hk x=>by
  rw [hG]
  by_cases hx:x=sl
  ·subst hx
   rw [hg,remK_at]
   constructor
   ·intro e; cases e; exact absurd rfl hk
   ·intro e; cases e
  ·rw [remK_ne hx]
 refine ⟨⟨fun k b e=>?_,?_⟩,fun s i e=>?_,⟨H',hH',fun k b e=>⟨fun hk1=>?_,fun s hs=>?_⟩⟩,fun k b e=>?_⟩
 ·rcases away_some e with ⟨rfl,_⟩ | ⟨_,e⟩
  ·exact h.rooted.1 _ a ha
  ·exact h.rooted.1 k b e
 ·obtain ⟨b,hb,hk⟩:=h.rooted.2
  exact ⟨b,by rw [away_N _ _ _ _ (fun x=>hn1 x.symm)]; exact hb,hk⟩
 ·have e0:fs.G s=some i:=remK_ok (by rw [hG] at e; exact e)
  have hsl:s≠sl:=fun x=>by rw [x,hG,remK_at] at e; cases e
  obtain ⟨⟨b,hb,hk⟩,h4,h5,h6⟩:=h.named s i e0
  refine ⟨⟨b,by rw [away_N _ _ _ _ (hE s i e0)]; exact hb,hk⟩,h4,?_,h6⟩
  by_cases hi:i=ino
  ·subst hi
   by_cases hl:a.nd.links=1
   ·exact absurd (links_one h ha hl e0 hg) hsl
   ·unfold awayS
    simp only
    rw [if_neg hl,updI_at]
    exact fun x=>by cases x
  ·rw [away_N _ _ _ _ hi]; exact h5
 ·rcases away_some e with ⟨rfl,hl,rfl⟩ | ⟨hk,e⟩
  ·have h1:=(hL _ a ha).1 hk1
   have h2:=len_less (k:=k) (s:=sl) hH hH' (by rw [hG,remK_at]; exact fun x=>by cases x) (fun x=>by
    rw [hG]
    by_cases hx:x=sl
    ·subst hx
     rw [hg,remK_at]; simp
    ·rw [remK_ne hx]; simp [hx])
   show ((H' k).length:Int)=a.nd.links - 1
   omega
  ·rw [slots_one hH hH' (hne k hk)]
   exact (hL k b e).1 hk1
 ·have e0:fs.G s=some k:=remK_ok (by have:=((hH' k).2.1 s).1 hs; rw [hG] at this; exact this)
  obtain ⟨c,hc⟩:=Option.ne_none_iff_exists'.1 (h.named s k e0).2.2.1
  obtain ⟨p,hp,hz⟩:=(hL k c hc).2 s (((hH k).2.1 s).2 e0)
  refine ⟨p,?_,hz⟩
  rw [← hp]
  refine pathK_congr hH (fun x hx=>?_) 31 s _ (by rw [e0]; exact fun x=>by cases x)
  obtain ⟨i,hi⟩:=Option.ne_none_iff_exists'.1 hx
  exact slots_one hH hH' (hne _ (hE x i hi))
 ·rcases away_some e with ⟨rfl,hl,rfl⟩ | ⟨hk,e⟩
  ·exact h.filled _ a ha
  ·exact h.filled k b e
end
/-- What stands at a spot that has a name. -/
theorem Wok.stands {fs:FS} {r:WR} (h:Wok fs r) (h0:r.code=0) (hn:r.name.toList.isEmpty=false):atG fs.G r.dir r.name=none∧r.ino=0∨atG fs.G r.dir r.name=some r.ino:=by
 rcases h.2 h0 with ⟨h1,_⟩ | ⟨_,_,_,h4⟩
 ·rw [h1,toList_eq] at hn
  exact absurd hn (by decide)
 ·exact h4
theorem Wok.free {fs:FS} (hC:Canon fs) (hR:RightFS fs) {r:WR} (h:Wok fs r) (h0:r.code=0) (hi:r.ino=0):atG fs.G r.dir r.name=none:=by
 rcases h.2 h0 with ⟨_,_,h3⟩ | ⟨_,_,_,⟨h4,_⟩ | h4⟩
 ·obtain ⟨a,ha,_⟩:=h3.dir
  have:=hC.pos ha
  omega
 ·exact h4
 ·obtain ⟨s,_,hs⟩:=slotAt_some h4
  obtain ⟨a,ha⟩:=Option.ne_none_iff_exists'.1 (hR.named s _ hs).2.2.1
  have:=hC.pos ha
  omega
/-- The slot of what stands somewhere. -/
theorem AtR.slot_at {fs:FS} {r:WR} {sl:SlotK} {a:NodeA} (h:AtR fs r sl a) (hw:Wok fs r) (h0:r.code=0) (hn:sl.1.2.toList.isEmpty=false):fs.G sl=some r.ino:=by
 have hn':r.name.toList.isEmpty=false:=by rw [h.slot] at hn; exact hn
 rcases hw.stands h0 hn' with ⟨_,h1⟩ | h1
 ·exact absurd h1 h.ino
 ·rw [atG_slot h.slot] at h1
  exact h1
theorem Wok.slot_file {fs:FS} {r:WR} {a:NodeA} (hC:Canon fs) (h:Wok fs r) (h0:r.code=0) (ha:fs.N r.ino=some a) (hk:a.nd.kind≠2):atG fs.G r.dir r.name=some r.ino:=by
 rcases h.2 h0 with ⟨_,_,h3⟩ | ⟨_,_,_,⟨_,h4⟩ | h4⟩
 ·obtain ⟨b,hb,hk2⟩:=h3.dir
  rw [ha] at hb
  cases hb
  exact absurd hk2 hk
 ·have:=hC.pos ha
  omega
 ·exact h4
theorem LinkR.right {fs fs':FS} {ino:Int} {a:NodeA} {tp:ByteArray} (hC:Canon fs) (hR:RightFS fs) (ha:fs.N ino=some a) (h:LinkR fs ino a tp 0 fs'):RightFS fs':=by
 rcases h with ⟨_,h1,_⟩ | ⟨_,h1,h2,_⟩ | ⟨_,_,_,h1,_⟩ | ⟨_,_,_,_,h1,_⟩ | ⟨hk,h1,h2,h3,sl,h4,rfl,hl⟩
 ·cases h1
 ·exact absurd h2.symm h1
 ·cases h1
 ·cases h1
 ·have hl:¬ longS (putG { fs with N:=upd fs.N ino { a with nd:={ a.nd with links:=a.nd.links+1 } } } sl ino):=by
   rcases hl with ⟨h,_⟩ | ⟨_,h⟩
   ·cases h
   ·exact h
  have hi1:ino≠1:=fun e=>by
   obtain ⟨b,hb,hk2⟩:=hR.rooted.2
   rw [← e,ha] at hb
   cases hb
   exact hk hk2
  have hw:=walk_ok hR hC.wf tp false
  have hfree:=hw.free hC hR h1 h2
  rw [atG_slot h4] at hfree
  obtain ⟨hn,hd,_⟩:=hw.spot hC h1 (.inl h2)
  obtain ⟨H,hH,hL⟩:=hR.linked
  have hal:∀ k b,fs.N k=some b→∃ c,upd fs.N ino { a with nd:={ a.nd with links:=a.nd.links+1 } } k=some c∧c.nd.kind=b.nd.kind:=fun k b e=>by
   by_cases hk:k=ino
   ·subst hk
    rw [ha] at e
    cases e
    exact ⟨_,updI_at,rfl⟩
   ·exact ⟨b,(updI_ne hk).trans e,rfl⟩
  have hne:∀ k b,fs.N k=some b→upd fs.N ino { a with nd:={ a.nd with links:=a.nd.links+1 } } k≠none:=fun k b e=>by
   obtain ⟨c,hc,_⟩:=hal k b e
   rw [hc]; exact fun h=>by cases h
  obtain ⟨H',hH'⟩:=slots_make (G:=updK fs.G sl ino) fun i=>⟨sl :: H i,fun s e=>by
   rcases updK_some e with ⟨rfl,_⟩ | ⟨_,e⟩
   ·simp
   ·exact List.mem_cons_of_mem _ (((hH i).2.1 s).2 e)⟩
  refine right_of (H:=H') ⟨fun k b e=>?_,?_⟩ (fun s i e=>?_) hH' (fun k b e hk1=>?_) hl (fun k b e=>?_)
  ·rcases updI_some (show upd fs.N ino _ k=some b from e) with ⟨rfl,_⟩ | ⟨_,e⟩
   ·exact hR.rooted.1 _ a ha
   ·exact hR.rooted.1 k b e
  ·obtain ⟨b,hb,hk⟩:=hR.rooted.2
   obtain ⟨c,hc,hk2⟩:=hal 1 b hb
   exact ⟨c,hc,hk2.trans hk⟩
  ·rcases updK_some (show updK fs.G sl ino s=some i from e) with ⟨rfl,rfl⟩ | ⟨_,e⟩
   ·obtain ⟨b,hb,hk⟩:=hd
    obtain ⟨c,hc,hk2⟩:=hal _ b hb
    rw [h4]
    exact ⟨⟨c,hc,hk2.trans hk⟩,hi1,hne _ a ha,hn⟩
   ·obtain ⟨⟨b,hb,hk⟩,h5,h6,h7⟩:=hR.named s i e
    obtain ⟨c,hc,hk2⟩:=hal _ b hb
    obtain ⟨d,hd⟩:=Option.ne_none_iff_exists'.1 h6
    exact ⟨⟨c,hc,hk2.trans hk⟩,h5,hne _ d hd,h7⟩
  ·rcases updI_some (show upd fs.N ino _ k=some b from e) with ⟨rfl,rfl⟩ | ⟨hk,e⟩
   ·rw [len_more (k:=k) (s:=sl) hH hH' (by rw [hfree]; exact fun h=>by cases h) (fun x=>by
     by_cases hx:x=sl
     ·subst hx; rw [updK_at]; simp
     ·rw [updK_ne hx]; simp [hx])]
    have:=(hL _ a ha).1 hk1
    show (((H k).length+1:Nat):Int)=a.nd.links+1
    omega
   ·rw [len_same (k:=k) hH hH' (fun x=>by
     by_cases hx:x=sl
     ·subst hx
      rw [hfree,updK_at]
      constructor
      ·intro h; cases h
      ·intro h; cases h; exact absurd rfl hk
     ·rw [updK_ne hx])]
    exact (hL k b e).1 hk1
  ·rcases updI_some (show upd fs.N ino _ k=some b from e) with ⟨rfl,rfl⟩ | ⟨_,e⟩
   ·exact hR.filled _ a ha
   ·exact hR.filled k b e
end Go.Proofs.YtpboohfofodeeaaGreatDoor
/- law16: what Stat answers, plainly (conditions: none). -/
namespace Go.Proofs.YtpboohfofodeeaaGreatDoor
open Go.RowKit Go.Maps
def bE:ByteArray:=⟨#[]⟩
def oLink (p t:ByteArray):OpA:=⟨4,p,t,bE,0,0,bE⟩
def oStat (p:ByteArray):OpA:=⟨20,p,bE,bE,0,0,bE⟩
def oWrite (p:ByteArray) (off:Int) (d:ByteArray):OpA:=⟨8,p,bE,bE,off,0,d⟩
def oRead (p:ByteArray) (off n:Int):OpA:=⟨9,p,bE,bE,off,n,bE⟩
def oUnl (p:ByteArray):OpA:=⟨5,p,bE,bE,0,0,bE⟩
theorem may_of {o:OpA} (h1:1≤o.kind∧o.kind≤21) (h2:(splitP o.path).2=0) (h3:mayK o.kind (splitP o.dest).2 o.n (targetB o.data) o.data.size (nameB o.name)=0):mayS o=0:=by
 unfold mayS
 rw [if_neg (by omega),if_neg (by simpa using h2)]
 exact h3
theorem mayK_none {k sd n:Int} {tb nb:Bool} {dz:Nat} (h:k=20∨k=8∨k=9∨k=5):mayK k sd n tb dz nb=0:=by
 unfold mayK
 rw [if_neg (by omega),if_neg (by omega),if_neg (by omega),if_neg (by omega),if_neg (by omega)]
theorem may_split2 {o:OpA} (hm:mayS o=0):(splitP o.path).2=0:=by
 unfold mayS at hm
 split at hm
 ·cases hm
 ·split at hm
  ·rename_i h; exact absurd hm h
  ·rename_i h; simpa using h
theorem may_dest {o:OpA} (hm:mayS o=0) (hk:o.kind=4∨o.kind=7):(splitP o.dest).2=0:=by
 have h:=(may_split hm).2
 unfold mayK at h
 rw [if_pos hk] at h
 exact h
theorem may_stat {p:ByteArray} (h:(splitP p).2=0):mayS (oStat p)=0:=may_of (by show 1≤(20:Int)∧(20:Int)≤21; decide) h (mayK_none (.inl rfl))
theorem may_write {p d:ByteArray} {off:Int} (h:(splitP p).2=0):mayS (oWrite p off d)=0:=may_of (by show 1≤(8:Int)∧(8:Int)≤21; decide) h (mayK_none (.inr (.inl rfl)))
theorem may_read {p:ByteArray} {off n:Int} (h:(splitP p).2=0):mayS (oRead p off n)=0:=may_of (by show 1≤(9:Int)∧(9:Int)≤21; decide) h (mayK_none (.inr (.inr (.inl rfl))))
theorem may_unl {p:ByteArray} (h:(splitP p).2=0):mayS (oUnl p)=0:=may_of (by show 1≤(5:Int)∧(5:Int)≤21; decide) h (mayK_none (.inr (.inr (.inr rfl))))
theorem DoesR.at_ {fs fs':FS} {o:OpA} {p:AnsP} (h:DoesR fs o p fs') (hk:4≤o.kind) {r:WR} (hw:walkS fs o.path (followsB o.kind)=r) (h0:r.code=0) (hi:r.ino≠0):∃ sl a,AtR fs r sl a ∧
 ((o.kind=4∧∃ code,LinkR fs r.ino a o.dest code fs'∧p=ansP0 code) ∨
  (o.kind=7∧∃ code,RenR fs sl r.ino a o.dest code fs'∧p=ansP0 code) ∨
  ((o.kind=5∨o.kind=6)∧p=ansP0 (unlinkC fs sl r.ino a (o.kind == 6))∧fs'=unlinkS fs sl r.ino a (o.kind == 6)) ∨
  ((o.kind=8∨o.kind=9∨o.kind=10∨o.kind=11∨o.kind=21)∧p=dataA a o∧fs'=dataFS fs r.ino a o) ∨
  ((12≤o.kind∧o.kind≤20)∧NodeR fs r.ino a o p fs')):=by
 unfold DoesR at h
 rw [hw] at h
 rcases h with ⟨h1,_⟩ | ⟨_,⟨h1,_⟩ | ⟨_,h1,_⟩ | h1⟩
 ·exact absurd h0 h1
 ·omega
 ·exact absurd h1 hi
 ·exact h1
/-- What an operation that was done met. -/
theorem DoesR.met {fs fs':FS} {o:OpA} {p:AnsP} (h:DoesR fs o p fs') (hk:4≤o.kind) (hc:p.code=0):(walkS fs o.path (followsB o.kind)).code=0∧(walkS fs o.path (followsB o.kind)).ino≠0:=by
 rcases h with ⟨h1,rfl,_⟩ | ⟨h0,⟨h1,_⟩ | ⟨_,_,rfl,_⟩ | ⟨sl,a,hat,_⟩⟩
 ·exact absurd hc h1
 ·omega
 ·exact absurd hc (by decide:(160:Int)≠0)
 ·exact ⟨h0,hat.ino⟩
section
variable {n:Nat} {fs:FS} {l l':List (ByteArray × ByteArray)} {path:ByteArray} {r:WR} {a:NodeA} {p:AnsP}
theorem do_stat (h:Mid n fs l) (hR:RightFS fs) (hs:(splitP path).2=0) (hw:walkS fs path false=r) (h0:r.code=0) (hi:r.ino≠0) (ha:fs.N r.ino=some a) (hd:DoR l (oStat path) p l'):p.code=0∧p.ino=r.ino∧p.nd=a.nd:=by
 obtain ⟨p1,fs',hds,hc,hp⟩:=mid_right h hR (may_stat hs) hd
 obtain ⟨sl,b,hat,h2⟩:=hds.at_ (by show 4≤(20:Int); decide) (r:=r) hw h0 hi
 have hb:=hat.node
 rw [ha] at hb
 cases hb
 have h3:NodeR fs r.ino a (oStat path) p1 fs':=by
  rcases h2 with ⟨h1,_⟩ | ⟨h1,_⟩ | ⟨h1,_⟩ | ⟨h1,_⟩ | ⟨_,h1⟩
  ·exact absurd h1 (by show ¬ (20:Int)=4; decide)
  ·exact absurd h1 (by show ¬ (20:Int)=7; decide)
  ·exact absurd h1 (by show ¬ ((20:Int)=5∨(20:Int)=6); decide)
  ·exact absurd h1 (by show ¬ ((20:Int)=8∨(20:Int)=9∨(20:Int)=10∨(20:Int)=11∨(20:Int)=21); decide)
  ·exact h1
 have hk:(oStat path).kind=20:=rfl
 have h4:p1={ ansP0 0 with ino:=r.ino,nd:=a.nd }:=by
  rcases h3 with ⟨k,_⟩ | ⟨k,_⟩ | ⟨k,_⟩ | ⟨k,_⟩ | ⟨k,_⟩ | ⟨k,_⟩ | ⟨k,_⟩ | ⟨k,_⟩ | ⟨_,_,h4⟩
  ·omega
  ·omega
  ·omega
  ·omega
  ·omega
  ·omega
  ·omega
  ·omega
  ·exact h4
 have h5:p1.code=0:=by rw [h4]; rfl
 obtain ⟨rfl,_⟩:=hp h5
 rw [h4]
 exact ⟨rfl,rfl,rfl⟩
end
end Go.Proofs.YtpboohfofodeeaaGreatDoor
/- files: what operations leave, if they were done, is right: renamed, and all (conditions: none). -/
namespace Go.Proofs.YtpboohfofodeeaaGreatDoor
open Go.RowKit Go.Maps
theorem right_move {fs:FS} {sl t:SlotK} {ino:Int} {a:NodeA} (h:RightFS fs) (ha:fs.N ino=some a) (hg:fs.G sl=some ino) (ht:fs.G t=none) (hd:isDir fs t.1.1) (hn:nameB t.1.2=true) (hl:¬ longS (putG { fs with G:=remK fs.G sl } t ino)):RightFS (putG { fs with G:=remK fs.G sl } t ino):=by
 obtain ⟨H,hH,hL⟩:=h.linked
 have hne:sl≠t:=fun e=>by rw [e,ht] at hg; cases hg
 have hfin:∀ (G:SlotK→Option Int),(∀ s i,G s=some i→s=t∨fs.G s=some i)→∃ H',SlotsP G H':=fun G hG=>slots_make fun i=>⟨t :: H i,fun s e=>by
  rcases hG s i e with rfl | e
  ·simp
  ·exact List.mem_cons_of_mem _ (((hH i).2.1 s).2 e)⟩
 obtain ⟨H1,hH1⟩:=hfin (remK fs.G sl) fun s i e=>.inr (remK_ok e)
 obtain ⟨H',hH'⟩:=hfin (updK (remK fs.G sl) t ino) fun s i e=>by
  rcases updK_some e with ⟨rfl,_⟩ | ⟨_,e⟩
  ·exact .inl rfl
  ·exact .inr (remK_ok e)
 have ht1:remK fs.G sl t=none:=by rw [remK_ne (fun e=>hne e.symm)]; exact ht
 refine right_of (H:=H') h.rooted (fun s i e=>?_) hH' (fun k b e hk1=>?_) hl h.filled
 ·rcases updK_some (show updK (remK fs.G sl) t ino s=some i from e) with ⟨rfl,rfl⟩ | ⟨_,e⟩
  ·exact ⟨hd,(h.named sl _ hg).2.1,by show fs.N _≠none; rw [ha]; exact fun h=>(by cases h),hn⟩
  ·exact h.named s i (remK_ok e)
 ·have h0:=(hL k b e).1 hk1
  by_cases hk:k=ino
  ·subst hk
   have h1:=len_less (k:=k) (s:=sl) hH hH1 (by rw [remK_at]; exact fun h=>by cases h) (fun x=>by
    by_cases hx:x=sl
    ·subst hx; rw [hg,remK_at]; simp
    ·rw [remK_ne hx]; simp [hx])
   have h2:=len_more (k:=k) (s:=t) hH1 hH' (by rw [ht1]; exact fun h=>by cases h) (fun x=>by
    by_cases hx:x=t
    ·subst hx; rw [updK_at]; simp
    ·rw [updK_ne hx]; simp [hx])
   rw [h2,← h1]
   exact h0
  ·rw [len_same (k:=k) hH hH' (fun x=>by
    by_cases hx:x=t
    ·subst hx
     rw [ht,updK_at]
     constructor
     ·intro h; cases h
     ·intro h; cases h; exact absurd rfl hk
    ·rw [updK_ne hx]
     by_cases hy:x=sl
     ·subst hy
      rw [hg,remK_at]
      constructor
      ·intro h; cases h; exact absurd rfl hk
      ·intro h; cases h
     ·rw [remK_ne hy])]
   exact h0
theorem RenR.right {fs fs':FS} {sl:SlotK} {ino:Int} {a:NodeA} {tp:ByteArray} (hC:Canon fs) (hR:RightFS fs) (ha:fs.N ino=some a) (hg:sl.1.2.toList.isEmpty=false→fs.G sl=some ino) (h:RenR fs sl ino a tp 0 fs'):RightFS fs':=by
 rcases h with ⟨_,h,_⟩ | ⟨hs,⟨h1,h,_⟩ | ⟨h1,⟨_,h,_⟩ | ⟨h2,⟨_,_,rfl⟩ | ⟨hni,⟨_,_,h,_⟩ | ⟨_,⟨_,_,_,_,h,_⟩ | ⟨_,_,_,_,_,h,_⟩ | ⟨_,_,_,_,h,_⟩ | ⟨t,ht,hlong,h⟩⟩⟩⟩⟩⟩
 ·cases h
 ·exact absurd h.symm h1
 ·cases h
 ·exact hR
 ·cases h
 ·cases h
 ·cases h
 ·cases h
 ·have hg:=hg hs
  have hl:¬ longS fs':=by
   rcases hlong with ⟨h,_⟩ | ⟨_,h⟩
   ·cases h
   ·exact h
  have hw:=walk_ok hR hC.wf tp false
  obtain ⟨hn,hd,_⟩:=hw.spot hC h1 (.inr h2)
  have hst:=hw.stands h1 h2
  rw [atG_slot ht] at hst
  have hn':nameB t.1.2=true:=by rw [ht]; exact hn
  have hd':isDir fs t.1.1:=by rw [ht]; exact hd
  rcases h with ⟨hno,rfl⟩ | ⟨o,ho,hk2,hk1,rfl⟩
  ·have hnone:fs.G t=none:=by
    rcases hst with ⟨h,_⟩ | h
    ·exact h
    ·exact absurd hno (hR.named t _ h).2.2.1
   exact right_move hR ha hg hnone hd' hn' hl
  ·have hgt:fs.G t=some (walkS fs tp false).ino:=by
    rcases hst with ⟨_,h⟩ | h
    ·have:=hC.pos ho
     omega
    ·exact h
   have hE:∀ s i,fs.G s=some i→s.1.1≠(walkS fs tp false).ino:=by
    by_cases hk:o.nd.kind=2
    ·have hak:a.nd.kind=2:=Classical.byContradiction fun h=>hk1 h hk
     exact (hk2 hak).2
    ·exact dir_ne hR ho hk
   have hR1:=right_away hR hgt ho hE
   have hne:sl≠t:=fun e=>by
    rw [e,hgt] at hg
    cases hg
    exact hni rfl
   refine right_move hR1 (a:=a) (by rw [away_N _ _ _ _ (fun e=>hni e.symm)]; exact ha) ((remK_ne hne).trans hg) remK_at ?_ hn' hl
   obtain ⟨b,hb,hbk⟩:=hd'
   exact ⟨b,by rw [away_N _ _ _ _ (hE t _ hgt)]; exact hb,hbk⟩
theorem NodeR.right {fs fs':FS} {ino:Int} {a:NodeA} {o:OpA} {p:AnsP} (hR:RightFS fs) (ha:fs.N ino=some a) (h:NodeR fs ino a o p fs'):RightFS fs':=by
 have hf:=hR.filled ino a ha
 rcases h with ⟨_,_,rfl⟩ | ⟨_,rfl,_⟩ | ⟨_,⟨_,_,rfl⟩ | ⟨_,_,rfl⟩⟩ | ⟨_,rfl,_⟩ | ⟨_,_,rfl⟩ | ⟨_,_,rfl⟩ | ⟨_,rfl,_⟩ | ⟨_,rfl,_⟩ | ⟨_,rfl,_⟩
 ·exact right_node hR ha rfl rfl hf
 ·exact hR
 ·exact hR
 ·exact right_node hR ha rfl rfl hf
 ·exact hR
 ·exact right_node hR ha rfl rfl hf
 ·exact right_node hR ha rfl rfl hf
 ·exact hR
 ·exact hR
 ·exact hR
/-- **What an operation leaves, if it was done, is right.** -/
theorem DoesR.right {fs fs':FS} {o:OpA} {p:AnsP} (hC:Canon fs) (hR:RightFS fs) (hm:mayS o=0) (h:DoesR fs o p fs') (h0:p.code=0):RightFS fs':=by
 have hw:=walk_ok hR hC.wf o.path (followsB o.kind)
 rcases h with ⟨h1,rfl,_⟩ | ⟨hc,⟨hk,sl,hs,hmk⟩ | ⟨_,_,rfl,_⟩ | ⟨sl,a,hat,h2⟩⟩
 ·exact absurd h0 h1
 ·rcases hmk with ⟨_,rfl,_⟩ | ⟨_,_,rfl,_⟩ | ⟨hz,h2,rfl,⟨rfl,_⟩ | ⟨_,hl⟩⟩
  ·exact absurd h0 (by decide:(161:Int)≠0)
  ·exact absurd h0 (by decide:(169:Int)≠0)
  ·exact absurd h0 (by decide:(120:Int)≠0)
  ·obtain ⟨hn,hd,_⟩:=hw.spot hC hc (.inl hz)
   have hf:=hw.free hC hR hc hz
   rw [atG_slot hs] at hf
   obtain ⟨_,_,r3⟩:=new_right hm hk
   exact right_make hR (by rw [hs]; exact hd) (by rw [hs]; exact hn) hf (fun _=>r3) hl
 ·exact absurd h0 (by decide:(160:Int)≠0)
 ·rcases h2 with ⟨_,code,h3,rfl⟩ | ⟨_,code,h3,rfl⟩ | ⟨_,rfl,rfl⟩ | ⟨hk,rfl,rfl⟩ | ⟨_,h3⟩
  ·obtain rfl:code=0:=h0
   exact h3.right hC hR hat.node
  ·obtain rfl:code=0:=h0
   exact h3.right hC hR hat.node (fun hn=>hat.slot_at hw hc hn)
  ·have h0:unlinkC fs sl _ a (o.kind == 6)=0:=h0
   unfold unlinkS
   rw [if_pos h0]
   unfold unlinkC at h0
   by_cases hk:a.nd.kind=2
   ·cases hrm:(o.kind == 6) with
    | false=>rw [hrm,if_pos ⟨hk,rfl⟩] at h0; cases h0
    | true=>
     rw [hrm,if_neg (by simp),if_neg (by simp)] at h0
     cases hn:sl.1.2.toList.isEmpty with
     | true=>rw [hn,if_pos rfl] at h0; cases h0
     | false=>
      rw [hn,if_neg (by simp),if_neg (fun h=>h hk)] at h0
      by_cases he:emptyS fs.G (walkS fs o.path (followsB o.kind)).ino
      ·exact right_away hR (hat.slot_at hw hc hn) hat.node he
      ·rw [if_pos he] at h0; cases h0
   ·have hg:=hw.slot_file hC hc hat.node hk
    rw [atG_slot hat.slot] at hg
    exact right_away hR hg hat.node (dir_ne hR hat.node hk)
  ·have h0:dataC a o=0:=h0
   obtain ⟨h1,hck⟩:=data_file hC hR hat hc hk h0
   have hd:=data_chk hck h0 hk
   unfold dataFS
   rw [if_pos h0]
   exact right_node hR hat.node (a':=dataNA a o) rfl rfl ⟨fun h=>absurd h1 h,fun _=>chk_iff.2 hd⟩
  ·exact h3.right hR hat.node
theorem DoesR.good {fs fs':FS} {o:OpA} {p:AnsP} (h:Good fs) (hi:OpInts o) (hm:mayS o=0) (hd:DoesR fs o p fs') (h0:p.code=0):Good fs':=⟨hd.canon h.canon h.right hi hm h0,hd.right h.canon h.right hm h0⟩
end Go.Proofs.YtpboohfofodeeaaGreatDoor
