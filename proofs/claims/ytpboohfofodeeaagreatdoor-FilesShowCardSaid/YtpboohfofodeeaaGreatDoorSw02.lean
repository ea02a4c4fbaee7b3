/- law16: files behind operations; an operation that asks changes no item, plainly (conditions: none). -/
import Derived.Test.YtpboohfofodeeaaGreatDoorSw01
namespace Go.Proofs.YtpboohfofodeeaaGreatDoor
open Go.RowKit Go.Maps
theorem items_sorted {fs : FS} (hC : Canon fs) {L : List (ByteArray × ByteArray)} (hL : ItemsOf fs L) : L.Pairwise (fun a b=>btLt a.1 b.1):=by
 obtain ⟨R,h1,h2,h3,h4⟩:=hL
 have hne : (R.map itx).Pairwise (fun a b=>a.1 ≠ b.1):=by
  rw [List.pairwise_map]
  refine (List.nodup_iff_pairwise_ne.1 h1).imp_of_mem fun {x y} hx hy hne e=>hne ?_
  have hx:=(h2 x).1 hx
  have hy:=(h2 y).1 hy
  have ek : x.1 = y.1:=kk_inj (hC.key hx) (hC.key hy) e
  obtain ⟨a,b⟩:=x
  obtain ⟨c,d⟩:=y
  simp only at ek
  subst ek
  rw [hasIt_det (fun k a e=>(hC.piece k a e).1) hx hy]
 have h5 : L.Pairwise (fun a b=>a.1 ≠ b.1):=(h3.pairwise_iff (fun h e=>h e.symm)).2 hne
 refine (h4.and h5).imp fun {a b} h=>?_
 rcases btLt_tri a.1 b.1 with h' | h' | h'
 ·exact h'
 ·exact absurd h' h.2
 ·exact absurd h' h.1
theorem sorted_ext : ∀ {L L' : List (ByteArray × ByteArray)},L.Pairwise (fun a b=>btLt a.1 b.1) → L'.Pairwise (fun a b=>btLt a.1 b.1) → (∀ x,x ∈ L ↔ x ∈ L') → L = L'
 | [],[],_,_,_=>rfl
 | [],y :: t,_,_,h=>by
  have:=(h y).2 (by simp)
  simp at this
 | x :: s,[],_,_,h=>by
  have:=(h x).1 (by simp)
  simp at this
 | x :: s,y :: t,h1,h2,h=>by
  obtain ⟨h3,h4⟩:=List.pairwise_cons.1 h1
  obtain ⟨h5,h6⟩:=List.pairwise_cons.1 h2
  have e : x = y:=by
   rcases List.mem_cons.1 ((h x).1 (by simp)) with e | hx
   ·exact e
   ·rcases List.mem_cons.1 ((h y).2 (by simp)) with e | hy
    ·exact e.symm
    ·exact absurd (h5 x hx) (btLt_asymm (h3 y hy))
  subst e
  rw [sorted_ext h4 h6 fun z=>?_]
  constructor
  ·intro hz
   rcases List.mem_cons.1 ((h z).1 (by simp [hz])) with rfl | hz'
   ·exact absurd (h3 z hz) (btLt_irrefl _)
   ·exact hz'
  ·intro hz
   rcases List.mem_cons.1 ((h z).2 (by simp [hz])) with rfl | hz'
   ·exact absurd (h5 z hz) (btLt_irrefl _)
   ·exact hz'
/-- The list of the items is one. -/
theorem items_one {fs : FS} (hC : Canon fs) {L L' : List (ByteArray × ByteArray)} (h : ItemsOf fs L) (h' : ItemsOf fs L') : L = L':=
 sorted_ext (items_sorted hC h) (items_sorted hC h') fun x=>(h.mem x).trans (h'.mem x).symm
/-- Files behind operations, and their items. -/
structure Mid (n : Nat) (fs : FS) (l : List (ByteArray × ByteArray)) : Prop where
 canon : Canon fs
 items : ItemsOf fs l
 itm : Itm n fs
theorem mid_step {n : Nat} {fs : FS} {l l' : List (ByteArray × ByteArray)} {o : OpA} {p : AnsP} (h : Mid n fs l) (ho : OpInts o) (hd : DoR l o p l') :
 (p.code ≠ 0 ∧ l' = [] ∧ p = ansP0 p.code) ∨ (p.code = 0 ∧ RightFS fs ∧ mayS o = 0 ∧ ∃ fs',DoesR fs o p fs' ∧ Mid (n + 5001) fs' l'):=by
 have ht:=take_items h.canon h.items
 rcases hd with ⟨_,rfl,rfl⟩ | ⟨_,_,_,h1,rfl,rfl⟩ | ⟨fs1,ht1,hr,hm,p1,fs',hd,hi,hc⟩
 ·exact .inl ⟨by decide,rfl,rfl⟩
 ·exact .inl ⟨h1,rfl,rfl⟩
 ·rw [ht] at ht1
  cases ht1
  rcases hc with ⟨h1,rfl,rfl⟩ | ⟨h1,rfl,h2⟩
  ·exact .inl ⟨h1,rfl,rfl⟩
  ·have hl:=(items_few h.itm h.items).1
   exact .inr ⟨h1,hr,hm,fs',hd,hd.canon h.canon hr ho hm h1,h2,hi.mono (by omega)⟩
/-- The reverse: files that are right. -/
theorem mid_right {n : Nat} {fs : FS} {l l' : List (ByteArray × ByteArray)} {o : OpA} {p : AnsP} (h : Mid n fs l) (hr : RightFS fs) (hm : mayS o = 0) (hd : DoR l o p l') :
 ∃ p1 fs',DoesR fs o p1 fs' ∧ p.code = p1.code ∧ (p1.code = 0 → p = p1 ∧ ItemsOf fs' l' ∧ Itm (n + 5001) fs'):=by
 rcases DoR.of_good ⟨h.canon,hr⟩ h.items hd with ⟨h1,_⟩ | ⟨_,p1,fs',hds,hi,hc⟩
 ·exact absurd hm h1
 ·have hl:=(items_few h.itm h.items).1
  rcases hc with ⟨h1,hp,_⟩ | ⟨h1,hp,h2⟩
  ·exact ⟨p1,fs',hds,by rw [hp]; rfl,fun h=>absurd h h1⟩
  ·exact ⟨p1,fs',hds,by rw [hp],fun _=>⟨hp,h2,hi.mono (by omega)⟩⟩
theorem mid_root {l : List (ByteArray × ByteArray)} (h : ItemsOf fsRoot l) : Mid 2 fsRoot l:=⟨root_good.canon,h,root_itm⟩
def asksP (o : OpA) : Prop:=o.kind = 9 ∨ o.kind = 21 ∨ o.kind = 13 ∨ o.kind = 15 ∨ o.kind = 18 ∨ o.kind = 19 ∨ o.kind = 20
theorem data_self {fs : FS} {ino : Int} {a : NodeA} {o : OpA} (ha : fs.N ino = some a) (hk : o.kind = 9 ∨ o.kind = 21) : dataFS fs ino a o = fs:=by
 unfold dataFS
 split
 ·have e : dataNA a o = a:=by
   unfold dataNA dataSZ dataPS
   rw [if_neg (by omega),if_neg (by omega),if_neg (by omega),if_neg (by omega),if_neg (by omega)]
  rw [e,updI_self ha]
 ·rfl
theorem asks_same {fs fs' : FS} {o : OpA} {p : AnsP} (h : DoesR fs o p fs') (hk : asksP o) : fs' = fs:=by
 unfold asksP at hk
 rcases h with ⟨_,_,rfl⟩ | ⟨_,⟨h1,_⟩ | ⟨_,_,_,rfl⟩ | ⟨sl,a,hat,h2⟩⟩
 ·rfl
 ·omega
 ·rfl
 ·rcases h2 with ⟨h1,_⟩ | ⟨h1,_⟩ | ⟨h1,_⟩ | ⟨h1,_,rfl⟩ | ⟨_,h3⟩
  ·omega
  ·omega
  ·omega
  ·exact data_self hat.node (by omega)
  ·rcases h3 with ⟨k,_,rfl⟩ | ⟨_,rfl,_⟩ | ⟨k,_⟩ | ⟨_,rfl,_⟩ | ⟨k,_,rfl⟩ | ⟨k,_,rfl⟩ | ⟨_,rfl,_⟩ | ⟨_,rfl,_⟩ | ⟨_,rfl,_⟩
   ·omega
   ·rfl
   ·omega
   ·rfl
   ·omega
   ·omega
   ·rfl
   ·rfl
   ·rfl
theorem ask_law {n : Nat} {fs : FS} {l l' : List (ByteArray × ByteArray)} {o : OpA} {p : AnsP} (h : Mid n fs l) (ho : OpInts o) (hd : DoR l o p l') (hc : p.code = 0) (hk : asksP o) : l' = l:=by
 rcases mid_step h ho hd with ⟨h1,_⟩ | ⟨_,_,_,fs',hds,hm⟩
 ·exact absurd hc h1
 ·obtain rfl:=asks_same hds hk
  exact items_one h.canon hm.items h.items
end Go.Proofs.YtpboohfofodeeaaGreatDoor
/- files: paths in files that were changed (conditions: none). -/
namespace Go.Proofs.YtpboohfofodeeaaGreatDoor
open Go.RowKit Go.Maps
/-- The same inodes, of the same kinds and targets. -/
def Alike (fs fs1 : FS) : Prop:=∀ k a,fs.N k = some a → ∃ a1,fs1.N k = some a1 ∧ a1.nd.kind = a.nd.kind ∧ a1.nd.target = a.nd.target
theorem Alike.refl (fs : FS) : Alike fs fs:=fun _ a h=>⟨a,h,rfl,rfl⟩
theorem Alike.trans {a b c : FS} (h : Alike a b) (k : Alike b c) : Alike a c:=fun i x hx=>by
 obtain ⟨y,h1,h2,h3⟩:=h i x hx
 obtain ⟨z,h4,h5,h6⟩:=k i y h1
 exact ⟨z,h4,h5.trans h2,h6.trans h3⟩
theorem alike_upd {fs : FS} {ino : Int} {a a' : NodeA} {G : SlotK → Option Int} {m : Int} (ha : fs.N ino = some a) (h1 : a'.nd.kind = a.nd.kind) (h2 : a'.nd.target = a.nd.target) : Alike fs ⟨m,upd fs.N ino a',G⟩:=fun k b e=>by
 by_cases h : k = ino
 ·subst h
  rw [ha] at e
  cases e
  exact ⟨a',updI_at,h1,h2⟩
 ·exact ⟨b,(updI_ne h).trans e,rfl,rfl⟩
theorem aboveF_congr {G G1 : SlotK → Option Int} {d : Int} (h : ∀ s,G1 s = some d ↔ G s = some d) : aboveF G1 d = aboveF G d:=by
 have e : (fun s=>G1 s = some d) = fun s=>G s = some d:=funext fun s=>propext (h s)
 unfold aboveF
 by_cases hx : ∃ s,G s = some d
 ·have hy : ∃ s,G1 s = some d:=by obtain ⟨s,hs⟩:=hx; exact ⟨s,(h s).2 hs⟩
  rw [dif_pos hx,dif_pos hy]
  congr 3
 ·rw [dif_neg hx,dif_neg fun ⟨s,hs⟩=>hx ⟨s,(h s).1 hs⟩]
theorem slotAt_of {sl : SlotK} {d : Int} {nm : ByteArray} (h : sl.1 = (d,nm)) : slotAt d nm = some sl:=by
 have hk : okSl (d,nm):=h ▸ sl.2
 unfold slotAt
 rw [dif_pos hk]
 exact congrArg some (Subtype.ext h.symm)
theorem slotAt_is {sl : SlotK} {d : Int} {nm : ByteArray} (h : slotAt d nm = some sl) : sl.1 = (d,nm):=by
 unfold slotAt at h
 split at h
 ·cases h; rfl
 ·cases h
theorem atG_slot {G : SlotK → Option Int} {sl : SlotK} {d : Int} {nm : ByteArray} (h : sl.1 = (d,nm)) : atG G d nm = G sl:=by
 unfold atG
 rw [slotAt_of h]
 rfl
theorem atG_same {G G1 : SlotK → Option Int} {sl : SlotK} {d : Int} {nm : ByteArray} (h : sl.1 ≠ (d,nm)) (hG : ∀ s,s ≠ sl → G1 s = G s) : atG G1 d nm = atG G d nm:=by
 unfold atG
 cases hs : slotAt d nm with
 | none=>rfl
 | some s=>
  show G1 s = G s
  exact hG s fun e=>h (e ▸ slotAt_is hs)
section
variable {fs fs1 : FS}
/-! ### the same names -/
def RelF (fs : FS) (fo fo1 : Bool) (r r1 : WR) : Prop:=r.code = 0 → (fo = fo1 ∨ ∀ a,fs.N r.ino = some a → a.nd.kind ≠ 3) → r1 = r
theorem walkIn_same (hR : RightFS fs) (hG : fs1.G = fs.G) (hA : Alike fs fs1) {fo fo1 : Bool} (hfo : fo = true → fo1 = true) {K K1 : ByteArray → List ByteArray → Int → WR} (hK : ∀ t rest dir,isDir fs dir → RelF fs fo fo1 (K t rest dir) (K1 t rest dir)) :
 ∀ (l : List ByteArray) (dir : Int),isDir fs dir → RelF fs fo fo1 (walkIn fs fo K l dir) (walkIn fs1 fo1 K1 l dir)
 | [],dir,hd=>by
  rw [walkIn,walkIn]
  exact fun _ _=>rfl
 | nm :: rest,dir,hd=>by
  by_cases hup : (nm.toList == [46,46]) = true
  ·rw [walkIn_up hup,walkIn_up hup,hG]
   exact walkIn_same hR hG hA hfo hK rest _ (above_dir hR hd)
  ·cases hg : atG fs.G dir nm with
   | none=>
    have hg1 : atG fs1.G dir nm = none:=by rw [hG]; exact hg
    by_cases h0 : rest.length = 0
    ·rw [walkIn_last hup hg h0,walkIn_last hup hg1 h0]
     exact fun _ _=>rfl
    ·rw [walkIn_none hup hg h0]
     exact fun h=>absurd h (by decide)
   | some ino=>
    have hg1 : atG fs1.G dir nm = some ino:=by rw [hG]; exact hg
    obtain ⟨s,hs,hgs⟩:=slotAt_some hg
    obtain ⟨a,ha⟩ : ∃ a,fs.N ino = some a:=Option.ne_none_iff_exists'.1 (hR.named _ _ hgs).2.2.1
    obtain ⟨a1,ha1,hk1,ht1⟩:=hA ino a ha
    by_cases hf : a.nd.kind = 3 ∧ (rest.length ≠ 0 ∨ fo = true)
    ·have hf1 : rest.length ≠ 0 ∨ fo1 = true:=hf.2.imp id hfo
     rw [walkIn_link hup hg ha hf.1 hf.2,walkIn_link hup hg1 ha1 (by rw [hk1]; exact hf.1) hf1,ht1]
     exact hK _ _ _ hd
    ·by_cases h0 : rest.length = 0
     ·rw [walkIn_is hup hg ha hf h0]
      intro _ hk
      rw [walkIn_is hup hg1 ha1 ?_ h0]
      rintro ⟨h3,h4⟩
      rw [hk1] at h3
      rcases hk with rfl | hk
      ·exact hf ⟨h3,h4⟩
      ·exact hk a ha h3
     ·by_cases h2 : a.nd.kind = 2
      ·rw [walkIn_in hup hg ha h0 h2,walkIn_in hup hg1 ha1 h0 (by rw [hk1]; exact h2)]
       exact walkIn_same hR hG hA hfo hK rest _ ⟨a,ha,h2⟩
      ·rw [walkIn_no hup hg ha (fun h3=>hf ⟨h3,.inl h0⟩) h0 h2]
       exact fun h=>absurd h (by decide)
theorem walkK_same (hR : RightFS fs) (hG : fs1.G = fs.G) (hA : Alike fs fs1) {fo fo1 : Bool} (hfo : fo = true → fo1 = true) : ∀ (k : Nat) (t : ByteArray) (rest : List ByteArray) (dir : Int),isDir fs dir → RelF fs fo fo1 (walkK fs fo k t rest dir) (walkK fs1 fo1 k t rest dir)
 | 0,_,_,_,_=>fun h=>absurd h (by rw [walkK]; exact (by decide : ¬ (wrE 166).code = 0))
 | k + 1,t,rest,dir,hd=>by
  rw [walkK,walkK]
  split
  ·exact fun h=>absurd h (by decide)
  ·refine walkIn_same hR hG hA hfo (walkK_same hR hG hA hfo k) _ _ ?_
   split
   ·exact hR.rooted.2
   ·exact hd
/-- A path that leads to no symlink leads there, followed or not, where the names are the same. -/
theorem walk_same (hR : RightFS fs) (hG : fs1.G = fs.G) (hA : Alike fs fs1) {fo fo1 : Bool} (hfo : fo = true → fo1 = true) {p : ByteArray} (h0 : (walkS fs p fo).code = 0) (hk : fo = fo1 ∨ ∀ a,fs.N (walkS fs p fo).ino = some a → a.nd.kind ≠ 3) : walkS fs1 p fo1 = walkS fs p fo:=
 walkIn_same hR hG hA hfo (walkK_same hR hG hA hfo 8) _ _ hR.rooted.2 h0 hk
/-! ### one name more, of a file -/
def putR (sl : SlotK) (ino : Int) (r : WR) : WR:=if r.ino = 0 ∧ (r.dir,r.name) = sl.1 then ⟨r.dir,r.name,ino,0⟩ else r
def RelP (sl : SlotK) (ino : Int) (r r1 : WR) : Prop:=r.code = 0 → r1 = putR sl ino r
structure PutIn (fs fs1 : FS) (sl : SlotK) (ino : Int) : Prop where
 none : fs.G sl = none
 at_ : fs1.G sl = some ino
 ne : ∀ s,s ≠ sl → fs1.G s = fs.G s
 alike : Alike fs fs1
 file : ∃ a,fs.N ino = some a ∧ a.nd.kind ≠ 2
theorem PutIn.above {sl : SlotK} {ino : Int} (h : PutIn fs fs1 sl ino) {d : Int} (hd : isDir fs d) : aboveF fs1.G d = aboveF fs.G d:=by
 obtain ⟨a,ha,hk⟩:=h.file
 obtain ⟨b,hb,hk2⟩:=hd
 refine aboveF_congr fun s=>?_
 by_cases e : s = sl
 ·subst e
  rw [h.at_,h.none]
  constructor
  ·intro h'
   cases h'
   rw [ha] at hb
   cases hb
   omega
  ·intro h'; cases h'
 ·rw [h.ne s e]
theorem walkIn_put {sl : SlotK} {ino : Int} (hC : Canon fs) (hR : RightFS fs) (h : PutIn fs fs1 sl ino) {fo : Bool} (hfk : fo = true → ∀ a,fs.N ino = some a → a.nd.kind ≠ 3) {K K1 : ByteArray → List ByteArray → Int → WR} (hK : ∀ t rest dir,isDir fs dir → RelP sl ino (K t rest dir) (K1 t rest dir)) :
 ∀ (l : List ByteArray) (dir : Int),isDir fs dir → RelP sl ino (walkIn fs fo K l dir) (walkIn fs1 fo K1 l dir)
 | [],dir,hd=>by
  rw [walkIn,walkIn]
  intro _
  obtain ⟨a,ha,_⟩:=hd
  have:=hC.pos ha
  unfold putR
  rw [if_neg]
  rintro ⟨h1,_⟩
  have h1 : dir = 0:=h1
  omega
 | nm :: rest,dir,hd=>by
  by_cases hup : (nm.toList == [46,46]) = true
  ·rw [walkIn_up hup,walkIn_up hup,h.above hd]
   exact walkIn_put hC hR h hfk hK rest _ (above_dir hR hd)
  ·by_cases hsl : sl.1 = (dir,nm)
   ·have hg : atG fs.G dir nm = none:=by rw [atG_slot hsl]; exact h.none
    have hg1 : atG fs1.G dir nm = some ino:=by rw [atG_slot hsl]; exact h.at_
    obtain ⟨a,ha,hk⟩:=h.file
    obtain ⟨a1,ha1,hk1,_⟩:=h.alike ino a ha
    by_cases h0 : rest.length = 0
    ·rw [walkIn_last hup hg h0,walkIn_is hup hg1 ha1 (fun x=>by
      rcases x.2 with x2 | x2
      ·exact x2 h0
      ·exact hfk x2 a ha (hk1 ▸ x.1)) h0]
     intro _
     unfold putR
     rw [if_pos ⟨rfl,hsl.symm⟩]
    ·rw [walkIn_none hup hg h0]
     exact fun h=>absurd h (by decide)
   ·have hgg:=atG_same hsl h.ne
    cases hg : atG fs.G dir nm with
    | none=>
     have hg1 : atG fs1.G dir nm = none:=by rw [hgg]; exact hg
     by_cases h0 : rest.length = 0
     ·rw [walkIn_last hup hg h0,walkIn_last hup hg1 h0]
      intro _
      unfold putR
      rw [if_neg]
      exact fun x=>hsl x.2.symm
     ·rw [walkIn_none hup hg h0]
      exact fun h=>absurd h (by decide)
    | some i=>
     have hg1 : atG fs1.G dir nm = some i:=by rw [hgg]; exact hg
     obtain ⟨s,hs,hgs⟩:=slotAt_some hg
     obtain ⟨a,ha⟩ : ∃ a,fs.N i = some a:=Option.ne_none_iff_exists'.1 (hR.named _ _ hgs).2.2.1
     obtain ⟨a1,ha1,hk1,ht1⟩:=h.alike i a ha
     by_cases hf : a.nd.kind = 3 ∧ (rest.length ≠ 0 ∨ fo = true)
     ·rw [walkIn_link hup hg ha hf.1 hf.2,walkIn_link hup hg1 ha1 (by rw [hk1]; exact hf.1) hf.2,ht1]
      exact hK _ _ _ hd
     ·have hf1 : ¬ (a1.nd.kind = 3 ∧ (rest.length ≠ 0 ∨ fo = true)):=by rw [hk1]; exact hf
      by_cases h0 : rest.length = 0
      ·rw [walkIn_is hup hg ha hf h0,walkIn_is hup hg1 ha1 hf1 h0]
       intro _
       unfold putR
       rw [if_neg]
       exact fun x=>hsl x.2.symm
      ·by_cases h2 : a.nd.kind = 2
       ·rw [walkIn_in hup hg ha h0 h2,walkIn_in hup hg1 ha1 h0 (by rw [hk1]; exact h2)]
        exact walkIn_put hC hR h hfk hK rest _ ⟨a,ha,h2⟩
       ·rw [walkIn_no hup hg ha (fun h3=>hf ⟨h3,.inl h0⟩) h0 h2]
        exact fun h=>absurd h (by decide)
theorem walkK_put {sl : SlotK} {ino : Int} (hC : Canon fs) (hR : RightFS fs) (h : PutIn fs fs1 sl ino) {fo : Bool} (hfk : fo = true → ∀ a,fs.N ino = some a → a.nd.kind ≠ 3) : ∀ (k : Nat) (t : ByteArray) (rest : List ByteArray) (dir : Int),isDir fs dir → RelP sl ino (walkK fs fo k t rest dir) (walkK fs1 fo k t rest dir)
 | 0,_,_,_,_=>fun h=>absurd h (by rw [walkK]; exact (by decide : ¬ (wrE 166).code = 0))
 | k + 1,t,rest,dir,hd=>by
  rw [walkK,walkK]
  split
  ·exact fun h=>absurd h (by decide)
  ·refine walkIn_put hC hR h hfk (walkK_put hC hR h hfk k) _ _ ?_
   split
   ·exact hR.rooted.2
   ·exact hd
theorem walk_put {sl : SlotK} {ino : Int} (hC : Canon fs) (hR : RightFS fs) (h : PutIn fs fs1 sl ino) {fo : Bool} (hfk : fo = true → ∀ a,fs.N ino = some a → a.nd.kind ≠ 3) {p : ByteArray} (h0 : (walkS fs p fo).code = 0) : walkS fs1 p fo = putR sl ino (walkS fs p fo):=
 walkIn_put hC hR h hfk (walkK_put hC hR h hfk 8) _ _ hR.rooted.2 h0
/-! ### one name less, of a file -/
def RelM (sl : SlotK) (r r1 : WR) : Prop:=r.code = 0 → (r.dir,r.name) ≠ sl.1 → r1 = r
structure OffIn (fs fs1 : FS) (sl : SlotK) (ino : Int) : Prop where
 at_ : fs.G sl = some ino
 none : fs1.G sl = none
 ne : ∀ s,s ≠ sl → fs1.G s = fs.G s
 alike : Alike fs fs1
 file : ∃ a,fs.N ino = some a ∧ a.nd.kind = 1
theorem OffIn.above {sl : SlotK} {ino : Int} (h : OffIn fs fs1 sl ino) {d : Int} (hd : isDir fs d) : aboveF fs1.G d = aboveF fs.G d:=by
 obtain ⟨a,ha,hk⟩:=h.file
 obtain ⟨b,hb,hk2⟩:=hd
 refine aboveF_congr fun s=>?_
 by_cases e : s = sl
 ·subst e
  rw [h.at_,h.none]
  constructor
  ·intro h'; cases h'
  ·intro h'
   cases h'
   rw [ha] at hb
   cases hb
   omega
 ·rw [h.ne s e]
theorem walkIn_off {sl : SlotK} {ino : Int} (hR : RightFS fs) (h : OffIn fs fs1 sl ino) {fo : Bool} {K K1 : ByteArray → List ByteArray → Int → WR} (hK : ∀ t rest dir,isDir fs dir → RelM sl (K t rest dir) (K1 t rest dir)) :
 ∀ (l : List ByteArray) (dir : Int),isDir fs dir → RelM sl (walkIn fs fo K l dir) (walkIn fs1 fo K1 l dir)
 | [],dir,hd=>by
  rw [walkIn,walkIn]
  exact fun _ _=>rfl
 | nm :: rest,dir,hd=>by
  by_cases hup : (nm.toList == [46,46]) = true
  ·rw [walkIn_up hup,walkIn_up hup,h.above hd]
   exact walkIn_off hR h hK rest _ (above_dir hR hd)
  ·by_cases hsl : sl.1 = (dir,nm)
   ·have hg : atG fs.G dir nm = some ino:=by rw [atG_slot hsl]; exact h.at_
    obtain ⟨a,ha,hk⟩:=h.file
    by_cases h0 : rest.length = 0
    ·rw [walkIn_is hup hg ha (fun x=>by omega) h0]
     exact fun _ hn=>absurd hsl.symm hn
    ·rw [walkIn_no hup hg ha (by omega) h0 (by omega)]
     exact fun h=>absurd h (by decide)
   ·have hgg:=atG_same hsl h.ne
    cases hg : atG fs.G dir nm with
    | none=>
     have hg1 : atG fs1.G dir nm = none:=by rw [hgg]; exact hg
     by_cases h0 : rest.length = 0
     ·rw [walkIn_last hup hg h0,walkIn_last hup hg1 h0]
      exact fun _ _=>rfl
     ·rw [walkIn_none hup hg h0]
      exact fun h=>absurd h (by decide)
    | some i=>
     have hg1 : atG fs1.G dir nm = some i:=by rw [hgg]; exact hg
     obtain ⟨s,hs,hgs⟩:=slotAt_some hg
     obtain ⟨a,ha⟩ : ∃ a,fs.N i = some a:=Option.ne_none_iff_exists'.1 (hR.named _ _ hgs).2.2.1
     obtain ⟨a1,ha1,hk1,ht1⟩:=h.alike i a ha
     by_cases hf : a.nd.kind = 3 ∧ (rest.length ≠ 0 ∨ fo = true)
     ·rw [walkIn_link hup hg ha hf.1 hf.2,walkIn_link hup hg1 ha1 (by rw [hk1]; exact hf.1) hf.2,ht1]
      exact hK _ _ _ hd
     ·have hf1 : ¬ (a1.nd.kind = 3 ∧ (rest.length ≠ 0 ∨ fo = true)):=by rw [hk1]; exact hf
      by_cases h0 : rest.length = 0
      ·rw [walkIn_is hup hg ha hf h0,walkIn_is hup hg1 ha1 hf1 h0]
       exact fun _ _=>rfl
      ·by_cases h2 : a.nd.kind = 2
       ·rw [walkIn_in hup hg ha h0 h2,walkIn_in hup hg1 ha1 h0 (by rw [hk1]; exact h2)]
        exact walkIn_off hR h hK rest _ ⟨a,ha,h2⟩
       ·rw [walkIn_no hup hg ha (fun h3=>hf ⟨h3,.inl h0⟩) h0 h2]
        exact fun h=>absurd h (by decide)
theorem walkK_off {sl : SlotK} {ino : Int} (hR : RightFS fs) (h : OffIn fs fs1 sl ino) {fo : Bool} : ∀ (k : Nat) (t : ByteArray) (rest : List ByteArray) (dir : Int),isDir fs dir → RelM sl (walkK fs fo k t rest dir) (walkK fs1 fo k t rest dir)
 | 0,_,_,_,_=>fun h=>absurd h (by rw [walkK]; exact (by decide : ¬ (wrE 166).code = 0))
 | k + 1,t,rest,dir,hd=>by
  rw [walkK,walkK]
  split
  ·exact fun h=>absurd h (by decide)
  ·refine walkIn_off hR h (walkK_off hR h k) _ _ ?_
   split
   ·exact hR.rooted.2
   ·exact hd
theorem walk_off {sl : SlotK} {ino : Int} (hR : RightFS fs) (h : OffIn fs fs1 sl ino) {fo : Bool} {p : ByteArray} (h0 : (walkS fs p fo).code = 0) (hn : ((walkS fs p fo).dir,(walkS fs p fo).name) ≠ sl.1) : walkS fs1 p fo = walkS fs p fo:=
 walkIn_off hR h (walkK_off hR h 8) _ _ hR.rooted.2 h0 hn
end
end Go.Proofs.YtpboohfofodeeaaGreatDoor
/- Files, plainly: a slot's path, its names, and where they lead (conditions: none). -/
namespace Go.Proofs.YtpboohfofodeeaaGreatDoor
open Go.RowKit Go.Maps
theorem baD_ext {a b : ByteArray} (h : a.data.toList = b.data.toList) : a = b:=ByteArray.ext (Array.toList_inj.1 h)
/-- Names, each behind a slash. -/
def joinP : List ByteArray → ByteArray
 | []=>⟨#[]⟩
 | n :: t=>slash ++ n ++ joinP t
theorem ba_nil (x : ByteArray) : (⟨#[]⟩ : ByteArray) ++ x = x:=baD_ext (by simp)
theorem ba_nil' (x : ByteArray) : x ++ (⟨#[]⟩ : ByteArray) = x:=baD_ext (by simp)
theorem ba_assoc (x y z : ByteArray) : x ++ y ++ z = x ++ (y ++ z):=baD_ext (by simp)
theorem joinP_append (a b : List ByteArray) : joinP (a ++ b) = joinP a ++ joinP b:=by
 induction a with
 | nil=>simp only [List.nil_append,joinP,ba_nil]
 | cons n t ih=>simp only [List.cons_append,joinP,ih,ba_assoc]
theorem joinP_last (a : List ByteArray) (n : ByteArray) : joinP (a ++ [n]) = joinP a ++ (slash ++ n):=by rw [joinP_append]; simp only [joinP,ba_nil']
theorem joinP_size (a : List ByteArray) : a.length ≤ (joinP a).size:=by
 induction a with
 | nil=>simp
 | cons n t ih=>
  simp only [joinP,ByteArray.size_append,List.length_cons]
  have : slash.size = 1:=rfl
  omega
/-- No slash in a text. -/
def NoSl (x : ByteArray) : Prop:=∀ b ∈ x.data.toList,b ≠ 47
theorem name_noSl {x : ByteArray} (h : nameB x = true) : NoSl x:=by
 unfold nameB at h
 simp only [Bool.and_eq_true,decide_eq_true_eq] at h
 exact fun b hb=>(h.1 b hb).1
theorem occ_no {x : ByteArray} (h : NoSl x) (t : List UInt8) (j : Nat) (hj : j < x.data.toList.length) : Lib.occAt (x.data.toList ++ t) [47] j = false:=by
 unfold Lib.occAt
 rw [List.drop_append_of_le_length (by omega)]
 rw [List.drop_eq_getElem_cons hj]
 have:=h _ (List.getElem_mem hj)
 simp [List.isPrefixOf]
 exact fun e=>this e.symm
theorem cut_one {x : ByteArray} (h : NoSl x) : cutL x = [x]:=by
 have hi : Lib.indexB x ⟨#[47]⟩ = -1:=by
  show Lib.index x.data.toList [47] = -1
  refine Lib.index_past (i:=x.data.toList.length) (by simp) (fun j hj=>?_) (by simp)
  have:=occ_no h [] j hj
  rwa [List.append_nil] at this
 unfold cutL
 rw [Lib.countB_miss _ _ hi]
 rfl
theorem cut_cons {x : ByteArray} (h : NoSl x) (y : ByteArray) : cutL (x ++ (slash ++ y)) = x :: cutL y:=by
 have hd : (x ++ (slash ++ y)).data.toList = x.data.toList ++ 47 :: y.data.toList:=by simp [slash]
 have hi : Lib.indexB (x ++ (slash ++ y)) ⟨#[47]⟩ = (x.data.toList.length : Nat):=by
  show Lib.index (x ++ (slash ++ y)).data.toList [47] = _
  rw [hd]
  refine Lib.index_hit (fun j hj=>occ_no h _ j hj) (by simp) ?_
  unfold Lib.occAt
  rw [List.drop_left]
  simp [List.isPrefixOf]
 have e1 : (x ++ (slash ++ y)).extract (x.data.toList.length + (⟨#[47]⟩ : ByteArray).size) (x ++ (slash ++ y)).size = y:=baD_ext (by
  rw [ByteArray.data_extract,Array.toList_extract,hd,List.extract_eq_take_drop,← List.drop_drop,List.drop_left]
  show List.take _ y.data.toList = _
  refine List.take_of_length_le ?_
  have hs : (x ++ (slash ++ y)).size = x.data.toList.length + (1 + y.data.toList.length):=by
   rw [ByteArray.size_append,ByteArray.size_append]
   simp only [Array.length_toList]
   rfl
  rw [hs]
  show _ ≤ x.data.toList.length + (1 + y.data.toList.length) - (x.data.toList.length + 1)
  omega)
 have e2 : (x ++ (slash ++ y)).extract 0 (x.data.toList.length + 0) = x:=baD_ext (by
  rw [ByteArray.data_extract,Array.toList_extract,hd]
  simp)
 unfold cutL
 rw [Lib.countB_hit _ _ _ (by decide) hi,e1,Nat.add_comm 1,Lib.splitB_hit _ _ _ _ _ hi,e1,e2]
theorem cut_join {n : ByteArray} {t : List ByteArray} (h : ∀ x ∈ n :: t,NoSl x) : cutL (n ++ joinP t) = n :: t:=by
 induction t generalizing n with
 | nil=>rw [joinP,ba_nil',cut_one (h n (by simp))]
 | cons m t ih=>
  rw [joinP,ba_assoc,cut_cons (h n (by simp)),ih (fun x hx=>h x (List.mem_cons_of_mem _ hx))]
/-- A path of names is split into them. -/
theorem split_join {ns : List ByteArray} (h0 : ns ≠ []) (h : ∀ x ∈ ns,nameB x = true) (hl : ns.length ≤ 32) (hz : (joinP ns).size ≤ 1023) : splitP (joinP ns) = (ns,0):=by
 obtain ⟨n,t,rfl⟩:=List.exists_cons_of_ne_nil h0
 have hn:=(name_pos (h n (by simp))).1
 have hd : (joinP (n :: t)).data.toList = 47 :: (n ++ joinP t).data.toList:=by simp [joinP,slash]
 have hb : (n ++ joinP t).data.toList ≠ []:=by
  intro e
  have : (n ++ joinP t).data.toList.length = 0:=by rw [e]; rfl
  rw [Array.length_toList] at this
  have h2 : (n ++ joinP t).size = 0:=this
  rw [ByteArray.size_append] at h2
  omega
 have hp : Lib.hasPrefix (joinP (n :: t)).data.toList [47] = true:=by rw [hd]; rfl
 have ht : (⟨(Lib.trimPrefix (joinP (n :: t)).data.toList [47]).toArray⟩ : ByteArray) = n ++ joinP t:=baD_ext (by
  show Lib.trimPrefix (joinP (n :: t)).data.toList [47] = _
  unfold Lib.trimPrefix
  rw [if_pos hp,hd]
  rfl)
 unfold splitP
 rw [toList_eq,hp,ht,cut_join (fun x hx=>name_noSl (h x hx))]
 have h1 : ((joinP (n :: t)).data.toList == [47]) = false:=by
  rw [hd]
  refine beq_eq_false_iff_ne.2 fun e=>hb ?_
  simpa using e
 have h2 : decide (1023 < (joinP (n :: t)).size) = false:=decide_eq_false (by omega)
 have h3 : decide (32 < (n :: t).length) = false:=decide_eq_false (by omega)
 have h4 : (n :: t).any (fun x=>!nameB x) = false:=by
  rw [List.any_eq_false]
  intro x hx
  rw [h x hx]
  decide
 simp only [h1,h2,h3,h4]
 rfl
/-- The names that lead from the root to an inode. -/
inductive Way (fs : FS) : Int → List ByteArray → Prop
 | root : Way fs 1 []
 | step {s : SlotK} {i : Int} {ns : List ByteArray} : Way fs s.1.1 ns → fs.G s = some i → Way fs i (ns ++ [s.1.2])
theorem pathK_way {fs : FS} {H : Int → List SlotK} (hH : SlotsP fs.G H) : ∀ (k : Nat) (s : SlotK) (p q : ByteArray),pathK H k s p = some q → ∃ ns,Way fs s.1.1 ns ∧ ns.length ≤ k ∧ q = joinP ns ++ p
 | 0,s,p,q,h=>by
  by_cases h1 : s.1.1 = 1
  ·rw [pathK_root h1] at h
   cases h
   exact ⟨[],h1 ▸ .root,Nat.zero_le _,(ba_nil _).symm⟩
  ·simp [pathK,h1] at h
 | k + 1,s,p,q,h=>by
  by_cases h1 : s.1.1 = 1
  ·rw [pathK_root h1] at h
   cases h
   exact ⟨[],h1 ▸ .root,Nat.zero_le _,(ba_nil _).symm⟩
  ·rcases hh : H s.1.1 with _ | ⟨a,t⟩
   ·rw [pathK_none h1 hh] at h
    cases h
   ·rw [pathK_up h1 hh] at h
    obtain ⟨ns,h2,h3,rfl⟩:=pathK_way hH k a _ _ h
    have ha : fs.G a = some s.1.1:=((hH s.1.1).2.1 a).1 (by rw [hh]; simp)
    exact ⟨ns ++ [a.1.2],.step h2 ha,by simp; omega,by simp only [joinP_last,ba_assoc]⟩
section
variable {fs : FS}
/-- A slot's path is its names, and they are few and short. -/
theorem path_names (hR : RightFS fs) {H : Int → List SlotK} (hH : SlotsP fs.G H) {s : SlotK} {i : Int} (hs : fs.G s = some i) : ∃ ns,Way fs s.1.1 ns ∧ pathT H s = joinP (ns ++ [s.1.2]) ∧ (ns ++ [s.1.2]).length ≤ 32 ∧ (pathT H s).size ≤ 1023:=by
 obtain ⟨H',h1,h2⟩:=hR.linked
 rw [slots_unique hH h1]
 have hn:=hR.named s i hs
 obtain ⟨a,ha⟩:=Option.ne_none_iff_exists'.1 hn.2.2.1
 obtain ⟨p,hp,hz⟩:=(h2 i a ha).2 s (((h1 i).2.1 s).2 hs)
 obtain ⟨ns,w1,w2,w3⟩:=pathK_way h1 31 s _ _ hp
 refine ⟨ns,w1,?_,by simp; omega,?_⟩
 ·rw [pathT,hp,joinP_last]
  exact w3
 ·rw [pathT,hp]
  exact hz
theorem way_named (hR : RightFS fs) {d : Int} {ns : List ByteArray} (h : Way fs d ns) : ∀ x ∈ ns,nameB x = true:=by
 induction h with
 | root=>intro x hx; cases hx
 | step _ hG ih=>
  intro x hx
  rcases List.mem_append.1 hx with hx | hx
  ·exact ih x hx
  ·rw [List.mem_singleton.1 hx]
   exact (hR.named _ _ hG).2.2.2
theorem name_up {x : ByteArray} (h : nameB x = true) : ¬ (x.toList == [46,46]) = true:=by
 unfold nameB at h
 simp only [Bool.and_eq_true,Bool.not_eq_true'] at h
 rw [h.2.2]
 decide
theorem atG_at {s : SlotK} : atG fs.G s.1.1 s.1.2 = fs.G s:=atG_of s.2
theorem way_walk (hR : RightFS fs) {fo : Bool} {K : ByteArray → List ByteArray → Int → WR} {d : Int} {ns : List ByteArray} (h : Way fs d ns) : ∀ rest : List ByteArray,rest.length ≠ 0 → isDir fs d → walkIn fs fo K (ns ++ rest) 1 = walkIn fs fo K rest d:=by
 induction h with
 | root=>intro rest _ _; rfl
 | @step s i ns hw hG ih=>
  intro rest h0 hd
  obtain ⟨a,ha,hk⟩:=hd
  have hn:=hR.named s i hG
  rw [List.append_assoc]
  show walkIn fs fo K (ns ++ (s.1.2 :: rest)) 1 = _
  rw [ih (s.1.2 :: rest) (by simp) hn.1]
  exact walkIn_in (name_up hn.2.2.2) (atG_at.trans hG) ha h0 hk
/-- A slot's path leads to it. -/
theorem path_walk (hR : RightFS fs) {H : Int → List SlotK} (hH : SlotsP fs.G H) {s : SlotK} {i : Int} (hs : fs.G s = some i) : (splitP (pathT H s)).2 = 0 ∧ walkS fs (pathT H s) false = ⟨s.1.1,s.1.2,i,0⟩:=by
 obtain ⟨ns,hw,hp,hl,hz⟩:=path_names hR hH hs
 have hn:=hR.named s i hs
 have hnm : ∀ x ∈ ns ++ [s.1.2],nameB x = true:=fun x hx=>by
  rcases List.mem_append.1 hx with hx | hx
  ·exact way_named hR hw x hx
  ·rw [List.mem_singleton.1 hx]; exact hn.2.2.2
 have hsp:=split_join (ns:=ns ++ [s.1.2]) (by simp) hnm hl (by rw [← hp]; exact hz)
 rw [← hp] at hsp
 refine ⟨by rw [hsp],?_⟩
 obtain ⟨a,ha⟩:=Option.ne_none_iff_exists'.1 hn.2.2.1
 unfold walkS
 rw [hsp,way_walk hR hw [s.1.2] (by simp) hn.1]
 exact walkIn_is (name_up hn.2.2.2) (atG_at.trans hs) ha (fun x=>by rcases x.2 with h | h; exact h rfl; cases h) rfl
theorem root_walk : (splitP slash).2 = 0 ∧ walkS fs slash false = ⟨0,⟨#[]⟩,1,0⟩:=by
 have h : splitP slash = ([],0):=by unfold splitP slash; simp only [toList_eq]; decide
 refine ⟨by rw [h],?_⟩
 unfold walkS
 rw [h]
 rfl
end
end Go.Proofs.YtpboohfofodeeaaGreatDoor
/- Files, plainly: Dir by Dir all names are met, each once (conditions: none). -/
namespace Go.Proofs.YtpboohfofodeeaaGreatDoor
open Go.RowKit Go.Maps
theorem nodup_le {α : Type} [DecidableEq α] : ∀ (a b : List α),a.Nodup → (∀ x ∈ a,x ∈ b) → a.length ≤ b.length
 | [],_,_,_=>Nat.zero_le _
 | x :: t,b,hn,hs=>by
  have hx:=hs x (by simp)
  have h:=nodup_le t (b.erase x) (List.nodup_cons.1 hn).2 fun y hy=>(List.mem_erase_of_ne (by rintro rfl; exact (List.nodup_cons.1 hn).1 hy)).2 (hs y (List.mem_cons_of_mem _ hy))
  rw [List.length_erase_of_mem hx] at h
  have:=List.length_pos_of_mem hx
  simp only [List.length_cons]
  omega
section
variable {fs : FS}
theorem way_once (hR : RightFS fs) (hG : GoodN fs) {d : Int} {ns ns' : List ByteArray} (h : Way fs d ns) : isDir fs d → Way fs d ns' → ns = ns':=by
 induction h generalizing ns' with
 | root=>
  intro _ h'
  cases h' with
  | root=>rfl
  | step _ hs=>exact absurd rfl (hR.named _ _ hs).2.1
 | @step s i ns hw hs ih=>
  intro hd h'
  cases h' with
  | root=>exact absurd rfl (hR.named _ _ hs).2.1
  | @step t _ ns2 hw2 ht=>
   have e:=dir_once hR hG hd hs ht
   subst e
   rw [ih (hR.named _ _ hs).1 hw2]
/-- A place: the root, or a slot. -/
abbrev Spot:=Option SlotK
def spIno (fs : FS) : Spot → Int
 | none=>1
 | some s=>(fs.G s).getD 0
def spLive (fs : FS) : Spot → Prop
 | none=>True
 | some s=>(fs.G s).isSome
def spText (H : Int → List SlotK) : Spot → ByteArray
 | none=>slash
 | some s=>pathT H s
theorem sp_way (hR : RightFS fs) {H : Int → List SlotK} (hH : SlotsP fs.G H) {x : Spot} (hx : spLive fs x) : ∃ ns,Way fs (spIno fs x) ns ∧ (x = none ∧ ns = [] ∨ x ≠ none ∧ spText H x = joinP ns):=by
 cases x with
 | none=>exact ⟨[],.root,.inl ⟨rfl,rfl⟩⟩
 | some s=>
  obtain ⟨i,hi⟩:=Option.isSome_iff_exists.1 hx
  obtain ⟨ns,h1,h2,_⟩:=path_names hR hH hi
  refine ⟨ns ++ [s.1.2],?_,.inr ⟨by simp,h2⟩⟩
  have : spIno fs (some s) = i:=by simp [spIno,hi]
  rw [this]
  exact .step h1 hi
/-- The text of a name in a Dir. -/
theorem kid_text (hR : RightFS fs) (hG : GoodN fs) {H : Int → List SlotK} (hH : SlotsP fs.G H) {x : Spot} (hx : spLive fs x) (hd : isDir fs (spIno fs x)) {c : SlotK} (hc : spLive fs (some c)) (he : c.1.1 = spIno fs x) : spText H (some c) = if x = none then slash ++ c.1.2 else spText H x ++ slash ++ c.1.2:=by
 obtain ⟨ns,h1,h2⟩:=sp_way hR hH hx
 obtain ⟨i,hi⟩:=Option.isSome_iff_exists.1 hc
 obtain ⟨ns2,h3,h4,_⟩:=path_names hR hH hi
 rw [he] at h3
 have e:=way_once hR hG h1 hd h3
 subst e
 show pathT H c = _
 rw [h4,joinP_last]
 rcases h2 with ⟨rfl,rfl⟩ | ⟨h2,h5⟩
 ·rw [if_pos rfl]
  simp only [joinP,ba_nil]
 ·rw [if_neg h2,h5,ba_assoc]
theorem text_root (hR : RightFS fs) {H : Int → List SlotK} (hH : SlotsP fs.G H) {x : Spot} (hx : spLive fs x) : spText H x = slash ↔ x = none:=by
 constructor
 ·intro h
  cases x with
  | none=>rfl
  | some s=>
   obtain ⟨i,hi⟩:=Option.isSome_iff_exists.1 hx
   have h1:=(path_walk hR hH hi).2
   have h2 : pathT H s = slash:=h
   rw [h2,root_walk.2] at h1
   have e : (1 : Int) = i:=congrArg WR.ino h1
   exact absurd e.symm (hR.named s i hi).2.1
 ·rintro rfl
  rfl
theorem dir_spot (hR : RightFS fs) (hG : GoodN fs) {x y : Spot} (hx : spLive fs x) (hy : spLive fs y) (he : spIno fs x = spIno fs y) (hd : isDir fs (spIno fs x)) : x = y:=by
 cases x with
 | none=>
  cases y with
  | none=>rfl
  | some t=>
   obtain ⟨j,hj⟩:=Option.isSome_iff_exists.1 hy
   simp [spIno,hj] at he
   exact absurd he.symm (hR.named t j hj).2.1
 | some s=>
  obtain ⟨i,hi⟩:=Option.isSome_iff_exists.1 hx
  cases y with
  | none=>
   simp [spIno,hi] at he
   exact absurd he (hR.named s i hi).2.1
  | some t=>
   obtain ⟨j,hj⟩:=Option.isSome_iff_exists.1 hy
   simp [spIno,hi,hj] at he
   subst he
   simp [spIno,hi] at hd
   rw [dir_once hR hG hd hi hj]
/-- Some spots are seen, some wait. -/
structure BfsI (fs : FS) (ss ws : List Spot) : Prop where
 nodup : (ss ++ ws).Nodup
 live : ∀ x ∈ ss ++ ws,spLive fs x
 root : none ∈ ss ++ ws
 kids : ∀ x ∈ ss,isDir fs (spIno fs x) → ∀ c,spLive fs (some c) → c.1.1 = spIno fs x → some c ∈ ss ++ ws
 from_ : ∀ c,some c ∈ ss ++ ws → ∃ x ∈ ss,spIno fs x = c.1.1
theorem BfsI.start (fs : FS) : BfsI fs [] [none]:=⟨by simp,fun x hx=>(by simp at hx; subst hx; trivial),by simp,fun x hx=>(by cases hx),fun c hc=>(by simp at hc)⟩
/-- The names in a Dir, as spots. -/
def KidsOf (fs : FS) (d : Int) (ks : List SlotK) : Prop:=ks.Nodup ∧ ∀ c,c ∈ ks ↔ spLive fs (some c) ∧ c.1.1 = d
theorem BfsI.leaf {ss ws : List Spot} {x : Spot} (h : BfsI fs ss (x :: ws)) (hd : ¬ isDir fs (spIno fs x)) : BfsI fs (ss ++ [x]) ws:=by
 have e : ss ++ [x] ++ ws = ss ++ x :: ws:=by simp
 refine ⟨by rw [e]; exact h.nodup,by rw [e]; exact h.live,by rw [e]; exact h.root,fun y hy hy2 c h1 h2=>?_,fun c hc=>?_⟩
 ·rw [e]
  rcases List.mem_append.1 hy with hy | hy
  ·exact h.kids y hy hy2 c h1 h2
  ·rw [List.mem_singleton.1 hy] at hy2
   exact absurd hy2 hd
 ·rw [e] at hc
  obtain ⟨y,hy,h2⟩:=h.from_ c hc
  exact ⟨y,List.mem_append_left _ hy,h2⟩
theorem BfsI.dir (hR : RightFS fs) (hG : GoodN fs) {ss ws : List Spot} {x : Spot} (h : BfsI fs ss (x :: ws)) (hd : isDir fs (spIno fs x)) {ks : List SlotK} (hk : KidsOf fs (spIno fs x) ks) : BfsI fs (ss ++ [x]) (ws ++ ks.map some):=by
 have e : ss ++ [x] ++ (ws ++ ks.map some) = (ss ++ x :: ws) ++ ks.map some:=by simp
 have hx:=h.live x (by simp)
 refine ⟨?_,?_,?_,?_,?_⟩
 ·rw [e,List.nodup_append]
  refine ⟨h.nodup,?_,fun a ha b hb=>?_⟩
  ·exact List.Pairwise.map some (fun a b h e=>h (Option.some.inj e)) hk.1
  ·rintro rfl
   obtain ⟨c,hc,rfl⟩:=List.mem_map.1 hb
   obtain ⟨h1,h2⟩:=(hk.2 c).1 hc
   obtain ⟨y,hy,h3⟩:=h.from_ c ha
   have e2:=dir_spot hR hG hx (h.live y (List.mem_append_left _ hy)) (by rw [h3,h2]) hd
   subst e2
   exact (List.nodup_append.1 h.nodup).2.2 x hy x (by simp) rfl
 ·rw [e]
  intro y hy
  rcases List.mem_append.1 hy with hy | hy
  ·exact h.live y hy
  ·obtain ⟨c,hc,rfl⟩:=List.mem_map.1 hy
   exact ((hk.2 c).1 hc).1
 ·rw [e]
  exact List.mem_append_left _ h.root
 ·rw [e]
  intro y hy hy2 c h1 h2
  rcases List.mem_append.1 hy with hy | hy
  ·exact List.mem_append_left _ (h.kids y hy hy2 c h1 h2)
  ·rw [List.mem_singleton.1 hy] at h2
   exact List.mem_append_right _ (List.mem_map.2 ⟨c,(hk.2 c).2 ⟨h1,h2⟩,rfl⟩)
 ·rw [e]
  intro c hc
  rcases List.mem_append.1 hc with hc | hc
  ·obtain ⟨y,hy,h2⟩:=h.from_ c hc
   exact ⟨y,List.mem_append_left _ hy,h2⟩
  ·obtain ⟨c',hc',e3⟩:=List.mem_map.1 hc
   cases e3
   exact ⟨x,by simp,((hk.2 c).1 hc').2.symm⟩
/-- Where none waits all are seen. -/
theorem BfsI.all (hR : RightFS fs) {H : Int → List SlotK} (hH : SlotsP fs.G H) {ss : List Spot} (h : BfsI fs ss []) {x : Spot} (hx : spLive fs x) : x ∈ ss:=by
 have hr : none ∈ ss:=by simpa using h.root
 have hway : ∀ d ns,Way fs d ns → isDir fs d → ∃ x ∈ ss,spIno fs x = d:=by
  intro d ns hw
  induction hw with
  | root=>exact fun _=>⟨none,hr,rfl⟩
  | @step s i ns _ hs ih=>
   intro _
   obtain ⟨y,hy,e⟩:=ih (hR.named s i hs).1
   have hl : spLive fs (some s):=by simp [spLive,hs]
   have:=h.kids y hy (by rw [e]; exact (hR.named s i hs).1) s hl e.symm
   exact ⟨some s,by simpa using this,by simp [spIno,hs]⟩
 cases x with
 | none=>exact hr
 | some s=>
  obtain ⟨i,hi⟩:=Option.isSome_iff_exists.1 hx
  obtain ⟨ns,h1,_⟩:=path_names hR hH hi
  obtain ⟨y,hy,e⟩:=hway _ _ h1 (hR.named s i hi).1
  have:=h.kids y hy (by rw [e]; exact (hR.named s i hi).1) s hx e.symm
  simpa using this
/-- So many names at most. -/
def Few (fs : FS) (n : Nat) : Prop:=∃ L : List SlotK,L.length ≤ n ∧ ∀ s,(fs.G s).isSome → s ∈ L
open Classical in
theorem BfsI.few {ss ws : List Spot} (h : BfsI fs ss ws) {n : Nat} (hf : Few fs n) : ss.length + ws.length ≤ n + 1:=by
 obtain ⟨L,h1,h2⟩:=hf
 have:=nodup_le (ss ++ ws) (none :: L.map some) h.nodup fun x hx=>by
  cases x with
  | none=>simp
  | some s=>exact List.mem_cons_of_mem _ (List.mem_map.2 ⟨s,h2 s (h.live _ hx),rfl⟩)
 simp only [List.length_append,List.length_cons,List.length_map] at this
 omega
/-- What was seen is the list of all. -/
theorem BfsI.perm (hR : RightFS fs) {H : Int → List SlotK} (hH : SlotsP fs.G H) {ss : List Spot} (h : BfsI fs ss []) {l : List SlotK} (hn : l.Nodup) (hl : ∀ s : SlotK,s ∈ l ↔ (fs.G s).isSome) : (ss.map (spText H)).Perm (slash :: l.map (pathT H)):=by
 have hp : ss.Perm (none :: l.map some):=by
  refine (List.perm_ext_iff_of_nodup (by simpa using h.nodup) ?_).2 fun x=>?_
  ·rw [List.nodup_cons]
   exact ⟨by simp,List.Pairwise.map some (fun a b h e=>h (Option.some.inj e)) hn⟩
  ·constructor
   ·intro hx
    have:=h.live x (by simpa using hx)
    cases x with
    | none=>simp
    | some s=>exact List.mem_cons_of_mem _ (List.mem_map.2 ⟨s,(hl s).2 this,rfl⟩)
   ·intro hx
    refine h.all hR hH ?_
    rcases List.mem_cons.1 hx with rfl | hx
    ·trivial
    ·obtain ⟨s,hs,rfl⟩:=List.mem_map.1 hx
     exact (hl s).1 hs
 have:=hp.map (spText H)
 rw [List.map_cons,List.map_map] at this
 exact this
end
end Go.Proofs.YtpboohfofodeeaaGreatDoor
