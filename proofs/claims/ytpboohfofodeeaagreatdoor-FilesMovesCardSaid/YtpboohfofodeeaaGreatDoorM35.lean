/- Files, plainly: what the list of their items needs; what taking items lays (conditions: none). -/
import Derived.Test.YtpboohfofodeeaaGreatDoorM31
namespace Go.Proofs.YtpboohfofodeeaaGreatDoor
open Go.RowKit Go.Maps
def HasKey (fs : FS) (k : KK) : Prop:=∃ v,HasIt fs (k,v)
/-- At most so many keys. -/
def KeysBy (n : Nat) (fs : FS) : Prop:=∀ K : List KK,K.Nodup → (∀ k ∈ K,HasKey fs k) → K.length ≤ n
open Classical in
theorem nodup_sub {α : Type} : ∀ {l X : List α},l.Nodup → (∀ x ∈ l,x ∈ X) → l.length ≤ X.length
 | [],X,_,_=>Nat.zero_le _
 | x :: t,X,hn,h=>by
  obtain ⟨h1,h2⟩:=List.nodup_cons.1 hn
  have hx:=h x (by simp)
  have ht : ∀ y ∈ t,y ∈ X.erase x:=fun y hy=>by
   have hne : y ≠ x:=fun e=>h1 (e ▸ hy)
   exact (List.mem_erase_of_ne hne).2 (h y (by simp [hy]))
  have:=nodup_sub h2 ht
  rw [List.length_erase_of_mem hx] at this
  have hp : 0 < X.length:=List.length_pos_of_mem hx
  simp only [List.length_cons]
  omega
theorem filter_two {α : Type} (p : α → Bool) : ∀ l : List α,l.length = (l.filter p).length + (l.filter fun x=>!p x).length
 | []=>rfl
 | x :: t=>by
  have:=filter_two p t
  cases h : p x <;> simp [h] <;> omega
open Classical in
theorem KeysBy.add {n : Nat} {fs fs' : FS} (X : List KK) (h : KeysBy n fs) (hs : ∀ k,HasKey fs' k → HasKey fs k ∨ k ∈ X) : KeysBy (n + X.length) fs':=fun K hK hk=>by
 have h1 : (K.filter fun k=>decide (k ∈ X)).length ≤ X.length:=nodup_sub (hK.filter _) (fun x hx=>by have:=(List.mem_filter.1 hx).2; simpa using this)
 have h2 : (K.filter fun k=>!decide (k ∈ X)).length ≤ n:=h _ (hK.filter _) (fun x hx=>by
  obtain ⟨ha,hb⟩:=List.mem_filter.1 hx
  rcases hs x (hk x ha) with h | h
  ·exact h
  ·simp [h] at hb)
 have h3:=filter_two (fun k=>decide (k ∈ X)) K
 omega
theorem KeysBy.mono {n m : Nat} {fs : FS} (h : KeysBy n fs) (hm : n ≤ m) : KeysBy m fs:=fun K h1 h2=>Nat.le_trans (h K h1 h2) hm
theorem hasKey_nxt (fs : FS) : HasKey fs .nxt:=⟨_,rfl⟩
theorem hasKey_nm {fs : FS} {s : SlotK} : HasKey fs (.nm s) ↔ (fs.G s).isSome = true:=by
 constructor
 ·rintro ⟨v,i,h,_⟩; rw [h]; rfl
 ·intro h
  obtain ⟨i,hi⟩:=Option.isSome_iff_exists.1 h
  exact ⟨_,i,hi,rfl⟩
theorem hasKey_nd {fs : FS} {k : Int} : HasKey fs (.nd k) ↔ (fs.N k).isSome = true:=by
 constructor
 ·rintro ⟨v,a,h,_⟩; rw [h]; rfl
 ·intro h
  obtain ⟨a,ha⟩:=Option.isSome_iff_exists.1 h
  exact ⟨_,a,ha,rfl⟩
theorem hasKey_pc {fs : FS} {k ix : Int} : HasKey fs (.pc k ix) ↔ ∃ a,fs.N k = some a ∧ ∃ v,(ix,v) ∈ a.ps:=by
 constructor
 ·rintro ⟨v,a,h,hv⟩; exact ⟨a,h,v,hv⟩
 ·rintro ⟨a,h,v,hv⟩; exact ⟨v,a,h,hv⟩
theorem hasKey_xa {fs : FS} {k : Int} {s : ByteArray} : HasKey fs (.xa k s) ↔ ∃ a,fs.N k = some a ∧ (a.at_ s).isSome = true:=by
 constructor
 ·rintro ⟨v,a,h,hv⟩; exact ⟨a,h,by rw [hv]; rfl⟩
 ·rintro ⟨a,h,hv⟩
  obtain ⟨v,hv⟩:=Option.isSome_iff_exists.1 hv
  exact ⟨v,a,h,hv⟩
/-- What a node's items need. -/
structure NodeI (a : NodeA) : Prop where
 target : a.nd.target.size ≤ 1023
 rises : Rises a.ps
 sizes : ∀ p ∈ a.ps,p.2.size = 64
 attrs : ∀ s v,a.at_ s = some v → s.size ≤ 255 ∧ v.size ≤ 120
/-- What files' items need. -/
structure Itm (n : Nat) (fs : FS) : Prop where
 keys : KeysBy n fs
 node : ∀ k a,fs.N k = some a → NodeI a
 names : namesOk fs
theorem rises_nodup {ps : List (Int × ByteArray)} (h : Rises ps) : ps.Nodup:=by
 rw [List.nodup_iff_pairwise_ne,List.pairwise_iff_getElem]
 intro i j hi hj hij e
 have:=h i j _ _ (List.getElem?_eq_getElem hi) (List.getElem?_eq_getElem hj) hij
 rw [e] at this
 omega
theorem hasIt_det {fs : FS} (hr : ∀ k a,fs.N k = some a → Rises a.ps) {k : KK} {v v' : ByteArray} (h : HasIt fs (k,v)) (h' : HasIt fs (k,v')) : v = v':=by
 cases k with
 | nxt=>exact (show v = numV fs.next from h).trans (show v' = numV fs.next from h').symm
 | nm s=>
  obtain ⟨i,h1,rfl⟩:=h
  obtain ⟨j,h2,rfl⟩:=h'
  rw [h1] at h2; cases h2; rfl
 | nd k=>
  obtain ⟨a,h1,rfl⟩:=h
  obtain ⟨b,h2,rfl⟩:=h'
  rw [h1] at h2; cases h2; rfl
 | pc k ix=>
  obtain ⟨a,h1,h3⟩:=h
  obtain ⟨b,h2,h4⟩:=h'
  rw [h1] at h2; cases h2
  obtain ⟨i,hi⟩:=List.mem_iff_getElem?.1 h3
  obtain ⟨j,hj⟩:=List.mem_iff_getElem?.1 h4
  have hrr:=hr k a h1
  rcases Nat.lt_trichotomy i j with hl | rfl | hl
  ·have:=hrr i j _ _ hi hj hl; simp only at this; omega
  ·rw [hi] at hj; cases hj; rfl
  ·have:=hrr j i _ _ hj hi hl; simp only at this; omega
 | xa k s=>
  obtain ⟨a,h1,h3⟩:=h
  obtain ⟨b,h2,h4⟩:=h'
  rw [h1] at h2; cases h2
  rw [h3] at h4; cases h4; rfl
theorem Itm.small {n : Nat} {fs : FS} (h : Itm n fs) {R : List (KK × ByteArray)} (hR : R.Nodup) (hm : ∀ q ∈ R,HasIt fs q) : R.length ≤ n:=by
 have hk : (R.map (·.1)).Nodup:=by
  rw [List.nodup_iff_pairwise_ne,List.pairwise_map]
  refine (List.nodup_iff_pairwise_ne.1 hR).imp_of_mem fun {x y} hx hy hne e=>hne ?_
  obtain ⟨a,b⟩:=x
  obtain ⟨c,d⟩:=y
  simp only at e
  subst e
  rw [hasIt_det (fun k a e=>(h.node k a e).rises) (hm _ hx) (hm _ hy)]
 have:=h.keys _ hk (fun k hk=>by
  obtain ⟨q,hq,rfl⟩:=List.mem_map.1 hk
  exact ⟨q.2,hm q hq⟩)
 rwa [List.length_map] at this
theorem Itm.itOk {n : Nat} {fs : FS} (h : Itm n fs) (hn : n ≤ 1099511627776) : ItOk fs:=
 ⟨fun R hR hm=>Nat.le_trans (h.small hR hm) hn,fun k a e=>rises_nodup (h.node k a e).rises,h.names,fun k a e=>by have:=(h.node k a e).target; omega,fun k a s v e hs=>by have:=((h.node k a e).attrs s v hs).1; omega⟩
/-! ### taking items -/
structure TakeOk (n : Nat) (fs : FS) : Prop where
 keys : KeysBy n fs
 good : GoodN fs
 names : namesOk fs
 attrs : ∀ k a,fs.N k = some a → ∀ s v,a.at_ s = some v → nameB s = true ∧ v.size ≤ 120
theorem takeOk0 : TakeOk 1 fs0:=by
 refine ⟨fun K hK hk=>?_,fun k a h=>(by cases h),fun s i h=>(by cases h),fun k a h=>(by cases h)⟩
 have : ∀ k ∈ K,k ∈ [KK.nxt]:=fun k hkm=>by
  have:=hk k hkm
  cases k with
  | nxt=>simp
  | nm s=>have:=hasKey_nm.1 this; cases this
  | nd k=>have:=hasKey_nd.1 this; cases this
  | pc k ix=>obtain ⟨a,h,_⟩:=hasKey_pc.1 this; cases h
  | xa k s=>obtain ⟨a,h,_⟩:=hasKey_xa.1 this; cases h
 exact nodup_sub hK this
theorem updI_some {α : Type} {f : Int → Option α} {k x : Int} {v y : α} (h : upd f k v x = some y) : (x = k ∧ y = v) ∨ (x ≠ k ∧ f x = some y):=by
 unfold upd at h
 by_cases e : x = k
 ·rw [if_pos e] at h; exact .inl ⟨e,(Option.some.inj h).symm⟩
 ·rw [if_neg e] at h; exact .inr ⟨e,h⟩
theorem updK_some {κ α : Type} {f : κ → Option α} {k x : κ} {v y : α} (h : updK f k v x = some y) : (x = k ∧ y = v) ∨ (x ≠ k ∧ f x = some y):=by
 unfold updK at h
 by_cases e : x = k
 ·rw [if_pos e] at h; exact .inl ⟨e,(Option.some.inj h).symm⟩
 ·rw [if_neg e] at h; exact .inr ⟨e,h⟩
/-- Another node at a number: which keys. -/
theorem keys_node {fs : FS} {ino : Int} {a' : NodeA} (X : List KK) (h0 : KK.nd ino ∈ X ∨ (fs.N ino).isSome = true) (h1 : ∀ ix v,(ix,v) ∈ a'.ps → (∃ a,fs.N ino = some a ∧ ∃ v',(ix,v') ∈ a.ps) ∨ KK.pc ino ix ∈ X) (h2 : ∀ s,(a'.at_ s).isSome = true → (∃ a,fs.N ino = some a ∧ (a.at_ s).isSome = true) ∨ KK.xa ino s ∈ X) :
 ∀ k,HasKey { fs with N:=upd fs.N ino a' } k → HasKey fs k ∨ k ∈ X:=fun k hk=>by
 cases k with
 | nxt=>exact .inl (hasKey_nxt fs)
 | nm s=>exact .inl (hasKey_nm.2 (hasKey_nm.1 hk))
 | nd k=>
  obtain ⟨y,hy⟩:=Option.isSome_iff_exists.1 (hasKey_nd.1 hk)
  rcases updI_some hy with ⟨rfl,_⟩ | ⟨_,h⟩
  ·exact h0.symm.imp (fun h=>hasKey_nd.2 h) id
  ·exact .inl (hasKey_nd.2 (by rw [h]; rfl))
 | pc k ix=>
  obtain ⟨y,hy,v,hv⟩:=hasKey_pc.1 hk
  rcases updI_some hy with ⟨rfl,rfl⟩ | ⟨_,h⟩
  ·exact (h1 ix v hv).imp (fun h=>hasKey_pc.2 h) id
  ·exact .inl (hasKey_pc.2 ⟨y,h,v,hv⟩)
 | xa k s=>
  obtain ⟨y,hy,hv⟩:=hasKey_xa.1 hk
  rcases updI_some hy with ⟨rfl,rfl⟩ | ⟨_,h⟩
  ·exact (h2 s hv).imp (fun h=>hasKey_xa.2 h) id
  ·exact .inl (hasKey_xa.2 ⟨y,h,hv⟩)
theorem keys_next {fs : FS} (n : Int) : ∀ k,HasKey { fs with next:=n } k → HasKey fs k:=fun k hk=>by
 cases k with
 | nxt=>exact hasKey_nxt fs
 | nm s=>exact hasKey_nm.2 (hasKey_nm.1 hk)
 | nd k=>exact hasKey_nd.2 (hasKey_nd.1 hk)
 | pc k ix=>exact hasKey_pc.2 (hasKey_pc.1 hk)
 | xa k s=>exact hasKey_xa.2 (hasKey_xa.1 hk)
theorem keys_names {fs : FS} {G : SlotK → Option Int} (X : List KK) (h : ∀ s,(G s).isSome = true → (fs.G s).isSome = true ∨ KK.nm s ∈ X) : ∀ k,HasKey { fs with G:=G } k → HasKey fs k ∨ k ∈ X:=fun k hk=>by
 cases k with
 | nxt=>exact .inl (hasKey_nxt fs)
 | nm s=>exact (h s (hasKey_nm.1 hk)).imp (fun h=>hasKey_nm.2 h) id
 | nd k=>exact .inl (hasKey_nd.2 (hasKey_nd.1 hk))
 | pc k ix=>exact .inl (hasKey_pc.2 (hasKey_pc.1 hk))
 | xa k s=>exact .inl (hasKey_xa.2 (hasKey_xa.1 hk))
theorem keys_of_name {fs : FS} (s : SlotK) (i : Int) : ∀ k,HasKey { fs with G:=updK fs.G s i } k → HasKey fs k ∨ k ∈ [KK.nm s]:=keys_names [KK.nm s] fun x hx=>by
 obtain ⟨y,hy⟩:=Option.isSome_iff_exists.1 hx
 rcases updK_some hy with ⟨rfl,_⟩ | ⟨_,h⟩
 ·exact .inr (by simp)
 ·exact .inl (by rw [h]; rfl)
end Go.Proofs.YtpboohfofodeeaaGreatDoor
/- Files, plainly: what taking items lays; what operations leave (conditions: none). -/
namespace Go.Proofs.YtpboohfofodeeaaGreatDoor
open Go.RowKit Go.Maps
theorem itS_ok {fs fs' : FS} {k v : ByteArray} {n : Nat} (h : itS fs k v = some fs') (ok : TakeOk n fs) : TakeOk (n + 1) fs':=by
 unfold itS at h
 cases hp : parseK k with
 | none=>rw [hp] at h; cases h
 | some kk=>
  rw [hp] at h
  cases kk with
  | nxt=>
   simp only at h
   split at h
   ·cases h
    exact ⟨(KeysBy.add [] ok.keys (fun k hk=>.inl (keys_next _ k hk))).mono (by simp),ok.good,ok.names,ok.attrs⟩
   ·cases h
  | nd ino=>
   simp only at h
   split at h
   ·rename_i hnode
    cases h
    refine ⟨KeysBy.add [KK.nd ino] ok.keys (keys_node _ (.inl (by simp)) (fun ix v hv=>by simp at hv) (fun s hs=>by cases hs)),fun k a e=>?_,ok.names,fun k a e s v hs=>?_⟩
    ·rcases updI_some e with ⟨_,rfl⟩ | ⟨_,e⟩
     ·exact hnode.2
     ·exact ok.good k a e
    ·rcases updI_some e with ⟨_,rfl⟩ | ⟨_,e⟩
     ·cases hs
     ·exact ok.attrs k a e s v hs
   ·cases h
  | nm s=>
   simp only at h
   split at h
   ·cases h
    refine ⟨KeysBy.add [KK.nm s] ok.keys (keys_of_name s _),ok.good,fun x i e=>?_,ok.attrs⟩
    rcases updK_some e with ⟨rfl,_⟩ | ⟨_,e⟩
    ·exact parseK_nm hp
    ·exact ok.names x i e
   ·cases h
  | pc ino ix=>
   simp only at h
   cases ha : fs.N ino with
   | none=>rw [ha] at h; cases h
   | some a=>
    rw [ha] at h
    cases h
    refine ⟨KeysBy.add [KK.pc ino ix] ok.keys (keys_node _ (.inr (by rw [ha]; rfl)) (fun ix' v' hv=>?_) (fun s hs=>.inl ⟨a,ha,hs⟩)),fun k b e=>?_,ok.names,fun k b e s v hs=>?_⟩
    ·rcases List.mem_append.1 hv with hv | hv
     ·exact .inl ⟨a,ha,v',hv⟩
     ·simp at hv
      exact .inr (by rw [hv.1]; simp)
    ·rcases updI_some e with ⟨_,rfl⟩ | ⟨_,e⟩
     ·exact ok.good ino a ha
     ·exact ok.good k b e
    ·rcases updI_some e with ⟨_,rfl⟩ | ⟨_,e⟩
     ·exact ok.attrs ino a ha s v hs
     ·exact ok.attrs k b e s v hs
  | xa ino name=>
   simp only at h
   cases ha : fs.N ino with
   | none=>rw [ha] at h; cases h
   | some a=>
    rw [ha] at h
    simp only at h
    split at h
    ·rename_i hcond
     cases h
     refine ⟨KeysBy.add [KK.xa ino name] ok.keys (keys_node _ (.inr (by rw [ha]; rfl)) (fun ix v' hv=>.inl ⟨a,ha,v',hv⟩) (fun s hs=>?_)),fun k b e=>?_,ok.names,fun k b e s v' hs=>?_⟩
     ·obtain ⟨y,hy⟩:=Option.isSome_iff_exists.1 hs
      rcases updK_some hy with ⟨rfl,_⟩ | ⟨_,hy⟩
      ·exact .inr (by simp)
      ·exact .inl ⟨a,ha,by rw [hy]; rfl⟩
     ·rcases updI_some e with ⟨_,rfl⟩ | ⟨_,e⟩
      ·exact ok.good ino a ha
      ·exact ok.good k b e
     ·rcases updI_some e with ⟨_,rfl⟩ | ⟨_,e⟩
      ·rcases updK_some hs with ⟨rfl,rfl⟩ | ⟨_,hs⟩
       ·exact hcond
       ·exact ok.attrs ino a ha s v' hs
      ·exact ok.attrs k b e s v' hs
    ·cases h
theorem take_ok : ∀ {l : List (ByteArray × ByteArray)} {fs fs' : FS} {p : Option ByteArray} {n : Nat},takeL fs p l = some fs' → TakeOk n fs → TakeOk (n + l.length) fs'
 | [],fs,fs',p,n,h,ok=>by
  have : fs = fs':=by simpa [takeL] using h
  subst this
  exact ok
 | x :: t,fs,fs',p,n,h,ok=>by
  rw [takeL] at h
  split at h
  ·cases h
  ·cases hi : itS fs x.1 x.2 with
   | none=>rw [hi] at h; cases h
   | some fs1=>
    rw [hi] at h
    have:=take_ok h (itS_ok hi ok)
    rw [List.length_cons,show n + (t.length + 1) = n + 1 + t.length by omega]
    exact this
/-- What is opened. -/
theorem TakeOk.fsOk {n : Nat} {fs : FS} (h : TakeOk n fs) (hR : RightFS fs) : FsOk fs:=⟨hR,h.good,h.names⟩
theorem TakeOk.itm {n : Nat} {fs : FS} (h : TakeOk n fs) (hR : RightFS fs) : Itm n fs:=by
 refine ⟨h.keys,fun k a e=>?_,h.names⟩
 have hok:=h.fsOk hR
 have hg:=h.good k a e
 have ht : a.nd.target.size ≤ 1023:=by
  obtain ⟨_,_,_,_,hg'⟩:=hg
  rcases hg' with ⟨_,_,_,h5⟩ | ⟨_,_,_,h5⟩ | ⟨h3,_,_⟩
  ·omega
  ·omega
  ·exact target_size (h.good k a e) h3
 by_cases hk : a.nd.kind = 2
 ·have hf:=hR.filled k a e
  have hnil:=hf.1 (by rw [hk]; decide)
  exact ⟨ht,by rw [hnil]; intro a b x y hx; simp at hx,by rw [hnil]; intro p hp; simp at hp,fun s v hs=>⟨name_size (h.attrs k a e s v hs).1,(h.attrs k a e s v hs).2⟩⟩
 ·have hc:=hok.check e hk
  exact ⟨ht,right_rises hc.2.2,fun p hp=>(check_bounds hc p hp).2,fun s v hs=>⟨name_size (h.attrs k a e s v hs).1,(h.attrs k a e s v hs).2⟩⟩
end Go.Proofs.YtpboohfofodeeaaGreatDoor
/- Files, plainly: what operations leave needs little more than what they met (conditions: none). -/
namespace Go.Proofs.YtpboohfofodeeaaGreatDoor
open Go.RowKit Go.Maps
theorem rises_pair {ps : List (Int × ByteArray)} : Rises ps ↔ ps.Pairwise (fun x y=>x.1 < y.1):=by
 rw [List.pairwise_iff_getElem]
 constructor
 ·intro h i j hi hj hij
  exact h i j _ _ (List.getElem?_eq_getElem hi) (List.getElem?_eq_getElem hj) hij
 ·intro h i j x y hx hy hij
  obtain ⟨hi,rfl⟩:=List.getElem?_eq_some_iff.1 hx
  obtain ⟨hj,rfl⟩:=List.getElem?_eq_some_iff.1 hy
  exact h i j hi hj hij
structure Pcs (ps : List (Int × ByteArray)) : Prop where
 rises : Rises ps
 sizes : ∀ p ∈ ps,p.2.size = 64
theorem Pcs.zer {ps : List (Int × ByteArray)} (h : Pcs ps) (lo hi : Int) (gone : Int → Bool) : Pcs (zerS lo hi gone ps):=by
 unfold zerS
 refine ⟨rises_pair.2 ?_,fun p hp=>?_⟩
 ·rw [List.pairwise_map]
  exact (rises_pair.1 h.rises).filter _
 ·obtain ⟨q,hq,rfl⟩:=List.mem_map.1 hp
  have:=h.sizes q (List.mem_filter.1 hq).1
  unfold zerP zeroB
  simp only
  rw [strOfNums_size,zeroL_len,numsOf_len,this]
theorem zer_idx {ps : List (Int × ByteArray)} {lo hi : Int} {gone : Int → Bool} {x : Int × ByteArray} (h : x ∈ zerS lo hi gone ps) : ∃ v',(x.1,v') ∈ ps:=by
 unfold zerS at h
 obtain ⟨q,hq,rfl⟩:=List.mem_map.1 h
 exact ⟨q.2,(List.mem_filter.1 hq).1⟩
theorem wrL_size {off p : Int} {data : ByteArray} {out : List (Int × ByteArray)} (h : ∀ p ∈ out,p.2.size = 64) : (wrL off data out p).length = 64:=by
 unfold wrL
 have h1:=oldB_len (ix:=p / 64) h
 have:=Int.emod_lt_of_pos p (show (0 : Int) < 64 by decide)
 have:=Int.emod_nonneg p (show (64 : Int) ≠ 0 by decide)
 rw [length_splice _ _ _ (by rw [h1,List.length_take]; unfold wrN; omega),h1]
theorem Pcs.put {ps : List (Int × ByteArray)} (h : Pcs ps) {t : Int} {s : ByteArray} (hs : s.size = 64) : Pcs (putP ps t s):=
 ⟨putP_rises h.rises,fun p hp=>by
  rcases putP_mem hp with rfl | hp
  ·exact hs
  ·exact h.sizes p hp⟩
theorem wrF_pcs (off : Int) (data : ByteArray) : ∀ (f : Nat) (out : List (Int × ByteArray)) (p : Int),Pcs out → Pcs (wrF off data f out p) ∧ ∃ W : List Int,W.length ≤ f ∧ ∀ x ∈ wrF off data f out p,(∃ v',(x.1,v') ∈ out) ∨ x.1 ∈ W
 | 0,out,p,h=>⟨h,[],Nat.le_refl _,fun x hx=>.inl ⟨x.2,hx⟩⟩
 | f + 1,out,p,h=>by
  rw [wrF]
  split
  ·have hp:=h.put (t:=p / 64) (s:=strOfNums (wrL off data out p)) (by rw [strOfNums_size,wrL_size h.sizes])
   obtain ⟨h1,W,hW,h2⟩:=wrF_pcs off data f _ (p + wrN data.size off p) hp
   refine ⟨h1,(p / 64) :: W,by simp; omega,fun x hx=>?_⟩
   rcases h2 x hx with ⟨v',hv⟩ | hx
   ·rcases putP_mem hv with e | hv
    ·injection e with e1 _
     exact .inr (by simp [e1])
    ·exact .inl ⟨v',hv⟩
   ·exact .inr (by simp [hx])
  ·exact ⟨h,[],by simp,fun x hx=>.inl ⟨x.2,hx⟩⟩
theorem data_pcs (a : NodeA) (o : OpA) (h : Pcs a.ps) : Pcs (dataPS a o):=by
 unfold dataPS
 split
 ·exact (wrF_pcs _ _ _ _ _ h).1
 ·split
  ·exact h.zer _ _ _
  ·split
   ·exact h.zer _ _ _
   ·exact h
theorem data_keys (a : NodeA) (o : OpA) (h : Pcs a.ps) (hc : dataC a o = 0) : ∃ W : List Int,W.length ≤ 4097 ∧ ∀ x ∈ dataPS a o,(∃ v',(x.1,v') ∈ a.ps) ∨ x.1 ∈ W:=by
 unfold dataPS
 by_cases h8 : o.kind = 8
 ·rw [if_pos h8]
  have hk : a.nd.kind ≠ 2:=fun hk=>by unfold dataC at hc; rw [if_pos hk] at hc; cases hc
  unfold dataC at hc
  rw [if_neg hk,if_neg (by omega),if_neg (by omega),if_pos h8] at hc
  have hd : ¬ (o.off < 0 ∨ 4096 < o.data.size):=fun hb=>by rw [if_pos hb] at hc; cases hc
  obtain ⟨_,W,hW,h2⟩:=wrF_pcs o.off o.data (o.data.size + 1) a.ps o.off h
  exact ⟨W,by omega,h2⟩
 ·rw [if_neg h8]
  refine ⟨[],by simp,fun x hx=>.inl ?_⟩
  split at hx
  ·exact zer_idx hx
  ·split at hx
   ·exact zer_idx hx
   ·exact ⟨x.2,hx⟩
section
variable {n : Nat} {fs : FS} {ino : Int} {a a' : NodeA}
theorem Itm.mono {m : Nat} (h : Itm n fs) (hm : n ≤ m) : Itm m fs:=⟨h.keys.mono hm,h.node,h.names⟩
theorem Itm.node_ (h : Itm n fs) (ha : fs.N ino = some a) (hn : NodeI a') (X : List KK) (h1 : ∀ x ∈ a'.ps,(∃ v',(x.1,v') ∈ a.ps) ∨ KK.pc ino x.1 ∈ X) (h2 : ∀ s,(a'.at_ s).isSome = true → (a.at_ s).isSome = true ∨ KK.xa ino s ∈ X) : Itm (n + X.length) { fs with N:=upd fs.N ino a' }:=
 ⟨KeysBy.add X h.keys (keys_node X (.inr (by rw [ha]; rfl)) (fun ix v hv=>(h1 (ix,v) hv).imp (fun e=>⟨a,ha,e⟩) id) (fun s hs=>(h2 s hs).imp (fun e=>⟨a,ha,e⟩) id)),fun k b e=>by
  rcases updI_some e with ⟨_,rfl⟩ | ⟨_,e⟩
  ·exact hn
  ·exact h.node k b e,h.names⟩
theorem Itm.new_ (h : Itm n fs) (nd : ND) (ht : nd.target.size ≤ 1023) : Itm (n + 1) { fs with N:=upd fs.N ino ⟨nd,[],fun _=>none⟩ }:=
 ⟨KeysBy.add [KK.nd ino] h.keys (keys_node _ (.inl (by simp)) (fun ix v hv=>by simp at hv) (fun s hs=>by cases hs)),fun k b e=>by
  rcases updI_some e with ⟨_,rfl⟩ | ⟨_,e⟩
  ·exact ⟨ht,rises_pair.2 List.Pairwise.nil,fun p hp=>by simp at hp,fun s v hs=>by cases hs⟩
  ·exact h.node k b e,h.names⟩
theorem Itm.rem_ (h : Itm n fs) : Itm n { fs with N:=rem fs.N ino }:=by
 refine ⟨(KeysBy.add [] h.keys fun k hk=>.inl ?_),fun k b e=>h.node k b (rem_some e).2,h.names⟩
 cases k with
 | nxt=>exact hasKey_nxt fs
 | nm s=>exact hasKey_nm.2 (hasKey_nm.1 hk)
 | nd k=>
  obtain ⟨y,hy⟩:=Option.isSome_iff_exists.1 (hasKey_nd.1 hk)
  exact hasKey_nd.2 (by rw [(rem_some hy).2]; rfl)
 | pc k ix=>
  obtain ⟨y,hy,hv⟩:=hasKey_pc.1 hk
  exact hasKey_pc.2 ⟨y,(rem_some hy).2,hv⟩
 | xa k s=>
  obtain ⟨y,hy,hv⟩:=hasKey_xa.1 hk
  exact hasKey_xa.2 ⟨y,(rem_some hy).2,hv⟩
theorem Itm.next_ (h : Itm n fs) (m : Int) : Itm n { fs with next:=m }:=⟨KeysBy.add [] h.keys (fun k hk=>.inl (keys_next m k hk)),h.node,h.names⟩
theorem Itm.put_ (h : Itm n fs) (s : SlotK) (hs : s.1.2.size ≤ 255) (i : Int) : Itm (n + 1) (putG fs s i):=
 ⟨KeysBy.add [KK.nm s] h.keys (keys_of_name s i),h.node,fun x j e=>by
  rcases updK_some e with ⟨rfl,_⟩ | ⟨_,e⟩
  ·exact hs
  ·exact h.names x j e⟩
theorem Itm.off_ (h : Itm n fs) (s : SlotK) : Itm n { fs with G:=remK fs.G s }:=
 ⟨KeysBy.add [] h.keys (keys_names [] fun x hx=>by
  obtain ⟨y,hy⟩:=Option.isSome_iff_exists.1 hx
  exact .inl (by rw [remK_ok hy]; rfl)),h.node,fun x j e=>h.names x j (remK_ok e)⟩
theorem NodeI.nd_ (h : NodeI a) {nd : ND} (hn : nd.target = a.nd.target) : NodeI { a with nd:=nd }:=⟨by simp only [hn]; exact h.target,h.rises,h.sizes,h.attrs⟩
theorem Itm.stat_ (h : Itm n fs) (ha : fs.N ino = some a) {nd : ND} (hn : nd.target = a.nd.target) : Itm n { fs with N:=upd fs.N ino { a with nd:=nd } }:=
 h.node_ ha ((h.node ino a ha).nd_ hn) [] (fun x hx=>.inl ⟨x.2,hx⟩) (fun _s hs=>.inl hs)
theorem Itm.away_ (h : Itm n fs) (ha : fs.N ino = some a) (s : SlotK) : Itm n (awayS fs s ino a):=by
 unfold awayS
 split
 ·exact (h.off_ s).rem_ (ino:=ino)
 ·exact (h.off_ s).stat_ (ino:=ino) ha rfl
theorem Itm.make_ (h : Itm n fs) (s : SlotK) (hs : s.1.2.size ≤ 255) (nd : ND) (ht : nd.target.size ≤ 1023) : Itm (n + 2) (makeS fs s nd):=by
 have h1:=(h.new_ (ino:=fs.next) { nd with links:=1 } ht).next_ (fs.next + 1)
 exact h1.put_ s hs fs.next
theorem Itm.data_ (h : Itm n fs) (ha : fs.N ino = some a) (o : OpA) : Itm (n + 4097) (dataFS fs ino a o):=by
 unfold dataFS
 split
 ·rename_i hc
  have hi:=h.node ino a ha
  obtain ⟨W,hW,hk⟩:=data_keys a o ⟨hi.rises,hi.sizes⟩ hc
  have hp:=data_pcs a o ⟨hi.rises,hi.sizes⟩
  refine (h.node_ ha (a':=dataNA a o) ⟨hi.target,hp.rises,hp.sizes,hi.attrs⟩ (W.map (KK.pc ino)) (fun x hx=>(hk x hx).imp id fun e=>List.mem_map.2 ⟨_,e,rfl⟩) (fun s hs=>.inl hs)).mono (by rw [List.length_map]; omega)
 ·exact h.mono (by omega)
theorem Itm.at_set (h : Itm n fs) (ha : fs.N ino = some a) {s v : ByteArray} (hs : s.size ≤ 255) (hv : v.size ≤ 120) : Itm (n + 1) (withAt fs ino a (updK a.at_ s v)):=
 h.node_ (a':={ a with at_:=updK a.at_ s v }) ha ⟨(h.node ino a ha).target,(h.node ino a ha).rises,(h.node ino a ha).sizes,fun x y e=>by
  rcases updK_some e with ⟨rfl,rfl⟩ | ⟨_,e⟩
  ·exact ⟨hs,hv⟩
  ·exact (h.node ino a ha).attrs x y e⟩ [KK.xa ino s] (fun x hx=>.inl ⟨x.2,hx⟩) (fun x hx=>by
  obtain ⟨y,hy⟩:=Option.isSome_iff_exists.1 hx
  rcases updK_some hy with ⟨rfl,_⟩ | ⟨_,e⟩
  ·exact .inr (by simp)
  ·exact .inl (by rw [e]; rfl))
theorem remK_some {α : Type} {f : ByteArray → Option α} {k x : ByteArray} {y : α} (h : remK f k x = some y) : f x = some y:=by
 unfold remK at h
 by_cases e : x = k
 ·rw [if_pos e] at h; cases h
 ·rwa [if_neg e] at h
theorem Itm.at_off (h : Itm n fs) (ha : fs.N ino = some a) (s : ByteArray) : Itm n (withAt fs ino a (remK a.at_ s)):=
 h.node_ (a':={ a with at_:=remK a.at_ s }) ha ⟨(h.node ino a ha).target,(h.node ino a ha).rises,(h.node ino a ha).sizes,fun x y e=>(h.node ino a ha).attrs x y (remK_some e)⟩ [] (fun x hx=>.inl ⟨x.2,hx⟩) (fun x hx=>by
  obtain ⟨y,hy⟩:=Option.isSome_iff_exists.1 hx
  exact .inl (by rw [remK_some hy]; rfl))
end
theorem may_k {o : OpA} (h : mayS o = 0) : mayK o.kind (splitP o.dest).2 o.n (targetB o.data) o.data.size (nameB o.name) = 0:=by
 unfold mayS at h
 by_cases h1 : o.kind < 1 ∨ 21 < o.kind
 ·rw [if_pos h1] at h; cases h
 ·rw [if_neg h1] at h
  by_cases h2 : (splitP o.path).2 ≠ 0
  ·rw [if_pos h2] at h; exact absurd h h2
  ·rwa [if_neg h2] at h
theorem may_target {o : OpA} (h : mayS o = 0) (hk : o.kind = 3) : o.data.size ≤ 1023:=by
 have h:=may_k h
 rw [hk] at h
 have hb : targetB o.data = true:=by
  by_cases hb : targetB o.data = true
  ·exact hb
  ·simp [mayK,hb] at h
 exact target_size (n:=⟨3,0,0,1,0,o.data⟩) (right3.2 ⟨by decide,by decide,by decide,by decide,rfl,hb⟩) rfl
theorem may_attr {o : OpA} (h : mayS o = 0) (hk : o.kind = 12) : o.name.size ≤ 255 ∧ o.data.size ≤ 120:=by
 have h:=may_k h
 rw [hk] at h
 by_cases hz : 120 < o.data.size
 ·simp [mayK,hz] at h
 ·by_cases hb : nameB o.name = true
  ·exact ⟨name_size hb,by omega⟩
  ·simp [mayK,hz,hb] at h
theorem slot_name {fs : FS} (hR : RightFS fs) (hw : WfG fs) {p : ByteArray} {fo : Bool} (h0 : (walkS fs p fo).code = 0) {sl : SlotK} (h : sl.1 = ((walkS fs p fo).dir,(walkS fs p fo).name)) : sl.1.2.size ≤ 255:=by
 obtain ⟨s,hs,hz,_⟩:=(walk_ok hR hw p fo).slot h0
 rw [h,← hs]
 exact hz
theorem Itm.does_ {n : Nat} {fs fs' : FS} {o : OpA} {p : AnsP} (h : Itm n fs) (hok : FsOk fs) (hw : WfG fs) (hm : mayS o = 0) (hd : DoesR fs o p fs') : Itm (n + 5000) fs':=by
 rcases hd with ⟨_,_,rfl⟩ | ⟨h0,hd⟩
 ·exact h.mono (by omega)
 rcases hd with ⟨hk,sl,hsl,hd⟩ | ⟨_,_,_,rfl⟩ | ⟨sl,a,hat,hd⟩
 ·rcases hd with ⟨_,_,rfl⟩ | ⟨_,_,_,rfl⟩ | ⟨_,_,rfl,_⟩
  ·exact h.mono (by omega)
  ·exact h.mono (by omega)
  ·refine (h.make_ sl (slot_name hok.right hw h0 hsl) (newND o) ?_).mono (by omega)
   unfold newND
   split
   ·rename_i hk3
    exact may_target hm hk3
   ·exact Nat.zero_le _
 ·exact h.mono (by omega)
 ·have ha:=hat.node
  rcases hd with ⟨_,code,hd,_⟩ | ⟨_,code,hd,_⟩ | ⟨_,_,rfl⟩ | ⟨_,_,rfl⟩ | ⟨_,hd⟩
  ·rcases hd with ⟨_,_,rfl⟩ | ⟨_,_,_,rfl⟩ | ⟨_,_,_,_,rfl⟩ | ⟨_,_,_,_,_,rfl⟩ | ⟨_,h1,_,_,s,hs,rfl,_⟩
   ·exact h.mono (by omega)
   ·exact h.mono (by omega)
   ·exact h.mono (by omega)
   ·exact h.mono (by omega)
   ·refine Itm.mono (n:=n + 1) (Itm.put_ (h.stat_ (nd:={ a.nd with links:=a.nd.links + 1 }) ha rfl) s (slot_name hok.right hw h1 hs) _) (by omega)
  ·rcases hd with ⟨_,_,rfl⟩ | ⟨_,⟨_,_,rfl⟩ | ⟨h1,⟨_,_,rfl⟩ | ⟨_,⟨_,_,rfl⟩ | ⟨_,⟨_,_,_,rfl⟩ | ⟨_,hd⟩⟩⟩⟩⟩
   ·exact h.mono (by omega)
   ·exact h.mono (by omega)
   ·exact h.mono (by omega)
   ·exact h.mono (by omega)
   ·exact h.mono (by omega)
   ·rcases hd with ⟨_,_,_,_,_,rfl⟩ | ⟨_,_,_,_,_,_,rfl⟩ | ⟨_,_,_,_,_,rfl⟩ | ⟨t,ht,_,hd⟩
    ·exact h.mono (by omega)
    ·exact h.mono (by omega)
    ·exact h.mono (by omega)
    ·have hz:=slot_name hok.right hw h1 ht
     rcases hd with ⟨_,rfl⟩ | ⟨o2,ho2,_,_,rfl⟩
     ·exact Itm.mono (Itm.put_ (h.off_ sl) t hz _) (by omega)
     ·exact Itm.mono (Itm.put_ (Itm.off_ (h.away_ ho2 t) sl) t hz _) (by omega)
  ·unfold unlinkS
   split
   ·exact (h.away_ ha sl).mono (by omega)
   ·exact h.mono (by omega)
  ·exact (h.data_ ha o).mono (by omega)
  ·rcases hd with ⟨hk,_,rfl⟩ | ⟨_,rfl,_⟩ | ⟨_,⟨_,_,rfl⟩ | ⟨_,_,rfl⟩⟩ | ⟨_,rfl,_⟩ | ⟨_,_,rfl⟩ | ⟨_,_,rfl⟩ | ⟨_,rfl,_⟩ | ⟨_,rfl,_⟩ | ⟨_,rfl,_⟩
   ·exact (h.at_set ha (may_attr hm hk).1 (may_attr hm hk).2).mono (by omega)
   ·exact h.mono (by omega)
   ·exact h.mono (by omega)
   ·exact (h.at_off ha _).mono (by omega)
   ·exact h.mono (by omega)
   ·exact Itm.mono (h.stat_ ha rfl) (by omega)
   ·exact Itm.mono (h.stat_ ha rfl) (by omega)
   ·exact h.mono (by omega)
   ·exact h.mono (by omega)
   ·exact h.mono (by omega)
end Go.Proofs.YtpboohfofodeeaaGreatDoor
