/- A region that draws its order, whose last operation may write what the others read: a condition on the world that need not hold behind the last one (conditions: none). -/
import Derived.Deep.RegionHeld3
import Derived.OrdersHeld
import Derived.StillTail
import Derived.Test.YtpboohfofodeeaaGreatDoorM11
import Derived.BigQuiet
import Derived.StillTailTactics
namespace Go.Proofs.YtpboohfofodeeaaGreatDoor
open Go

section
variable {P : Program} {ops : Array Oper} {Q : Exit → Act → World → Prop} {md : Region.Mode} {S : World → Prop} {t : Nat}
/-- Whatever order is picked from here on; S holds behind every operation but number t. -/
def wpAnyT (P : Program) (md : Region.Mode) (ops : Array Oper) (Q : Exit → Act → World → Prop) (S : World → Prop) (t : Nat) : Nat → Array Bool → Act → World → Prop
 | 0,listed,a,w=>Region.ready md ops listed = [] ∧ Q .normal a w
 | fuel + 1,listed,a,w=>
  (Region.ready md ops listed = [] → Q .normal a w) ∧
  ∀ i ∈ Region.ready md ops listed,wpOp P ops Q i (fun a' w'=>(i ≠ t → S w') ∧ wpAnyT P md ops Q S t fuel (listed.setIfInBounds i true) a' w') a w
theorem wpAny_of_T : ∀ (fuel : Nat) (listed : Array Bool) (a : Act) (w : World),wpAnyT P md ops Q S t fuel listed a w → wpAny P md ops Q fuel listed a w
 | 0,_,_,_,h=>h
 | fuel + 1,_,_,_,h=>⟨h.1,fun i hi=>wpOp_mono (fun a' w' h'=>wpAny_of_T fuel _ a' w' h'.2) (h.2 i hi)⟩
/-- Number t waits for every other one. -/
def sinkAt (md : Region.Mode) (ops : Array Oper) (t : Nat) : Bool:=(List.range ops.size).all fun k=>k == t || Region.waitsFor md ops t k
theorem sinkAt_spec {i : Nat} {listed : Array Bool} (h : sinkAt md ops t = true) (hi : i ∈ Region.ready md ops listed) (hne : i ≠ t) : t ∉ Region.ready md ops listed:=fun ht=>by
 obtain ⟨hun,o,ho,_⟩:=mem_ready.1 hi
 have hlt : i < ops.size:=(Array.getElem?_eq_some_iff.1 ho).1
 have h1:=List.all_eq_true.1 h i (List.mem_range.2 hlt)
 rw [Bool.or_eq_true] at h1
 rcases h1 with h1 | h1
 ·exact hne (by simpa using h1)
 ·obtain ⟨ot,hot,e,he,hb,hon⟩:=Region.waitsFor_spec h1
  obtain ⟨_,o',ho',hall⟩:=mem_ready.1 ht
  have : o' = ot:=Option.some.inj (ho'.symm.trans hot)
  subst this
  have h2:=hall e he hb
  rw [hon,getD_both hun] at h2
  cases h2
theorem wpAnyT_first (hs : sinkAt md ops t = true) {i : Nat} {oi : Oper} {v : Value} (hit : i ≠ t) (hi : ops[i]? = some oi) (hsel : ∀ (j : Nat) (o : Oper) cs b,ops[j]? = some o → o.op ≠ .select cs b)
 (hQ : ∀ c a w,Q (.panic c) (a.put oi.dst v) w → Q (.panic c) a w) :
 ∀ (fuel : Nat) (listed : Array Bool) (a : Act) (w : World),
  (∀ j oj,ops[j]? = some oj → j ≠ i → listed.getD j true = false → (∀ e ∈ oj.after,Region.binds md e = true → e.on ≠ i) → oi.apart ops oj = true) →
  i ∈ Region.ready md ops listed → YieldsIf P ops S oi v a → S w →
  wpAnyT P md ops Q S t fuel (listed.setIfInBounds i true) (a.put oi.dst v) w → wpAnyT P md ops Q S t (fuel + 1) listed a w:=by
 intro fuel
 induction fuel with
 | zero=>
  intro listed a w _ hr hy hS H
  refine ⟨fun h=>(by rw [h] at hr; cases hr),fun j hj=>?_⟩
  by_cases hji : j = i
  ·subst hji; exact hy.wpOp hi hS ⟨fun _=>hS,H⟩
  ·have:=ready_mono hj hji
   rw [H.1] at this
   cases this
 | succ fuel ih=>
  intro listed a w hfree hr hy hS H
  refine ⟨fun h=>(by rw [h] at hr; cases hr),fun j hj=>?_⟩
  by_cases hji : j = i
  ·subst hji; exact hy.wpOp hi hS ⟨fun _=>hS,H⟩
  ·have h1:=H.2 j (ready_mono hj hji)
   have hjt : j ≠ t:=fun e=>sinkAt_spec hs hr hit (e ▸ hj)
   obtain ⟨hjun,oj,hoj,hall⟩:=mem_ready.1 hj
   have hnot : ∀ e ∈ oj.after,Region.binds md e = true → e.on ≠ i:=fun e he hb heq=>by
    have h1:=hall e he hb
    have h0:=(mem_ready.1 hr).1
    rw [heq,getD_both h0] at h1
    cases h1
   have h2:=wpOp_putIf hoj (hfree j oj hoj hji hjun hnot) (fun cs b=>hsel i oi cs b hi) (fun cs b=>hsel j oj cs b hoj) hQ hy h1
   have hfree' : ∀ k ok,ops[k]? = some ok → k ≠ i → (listed.setIfInBounds j true).getD k true = false →
    (∀ e ∈ ok.after,Region.binds md e = true → e.on ≠ i) → oi.apart ops ok = true:=fun k ok hk hki hun hno=>by
    refine hfree k ok hk hki ?_ hno
    by_cases hjk : j = k
    ·subst hjk; exact hjun
    ·rw [getD_set_ne true hjk] at hun; exact hun
   refine wpOp_mono (fun a' w' h3=>⟨fun _=>h3.2.1 hjt,ih (listed.setIfInBounds j true) a' w' hfree' (ready_mono hr (Ne.symm hji)) h3.1 (h3.2.1 hjt) ?_⟩) h2
   rw [Array.setIfInBounds_comm _ _ hji]
   exact h3.2.2
theorem wpAnyT_take (hs : sinkAt md ops t = true) (i : Nat) {oi : Oper} {v : Value} {fuel : Nat} {listed : Array Bool} {a : Act} {w : World} (hit : i ≠ t) (hi : ops[i]? = some oi)
 (hns : Region.noSelect ops = true) (hf : Region.free md ops listed i = true) (hr : (Region.ready md ops listed).contains i = true)
 (hQ : ∀ c a w,Q (.panic c) (a.put oi.dst v) w → Q (.panic c) a w) (hy : YieldsIf P ops S oi v a) (hS : S w)
 (h : wpAnyT P md ops Q S t fuel (listed.setIfInBounds i true) (a.put oi.dst v) w) : wpAnyT P md ops Q S t (fuel + 1) listed a w:=
 wpAnyT_first hs hit hi (Region.noSelect_spec hns) hQ fuel listed a w (Region.free_spec hi hf) (by simpa using hr) hy hS h
/-- One alone may come up. -/
theorem wpAnyT_one (i : Nat) {o : Oper} {fuel : Nat} {listed : Array Bool} {a : Act} {w : World} (hr : Region.ready md ops listed = [i]) (ho : ops[i]? = some o)
 (h : ∀ K' : Act → World → Prop,Shut (∀ a w,(i ≠ t → S w) → wpAnyT P md ops Q S t fuel (listed.setIfInBounds i true) a w → K' a w) → if Region.wanted o (yielded ops a.tmps) = true then Oper.wp P o a w K' Q else K' (a.put o.dst undef) w) :
 wpAnyT P md ops Q S t (fuel + 1) listed a w:=
 ⟨fun h0=>(by rw [hr] at h0; cases h0),fun j hj=>by
  rw [hr,List.mem_singleton] at hj
  subst hj
  exact wpOp_step ho (fun K' hK=>h K' (fun a w hS hW=>hK a w ⟨hS,hW⟩))⟩
theorem wpAnyT_done {fuel : Nat} {listed : Array Bool} {a : Act} {w : World} (hr : Region.ready md ops listed = []) (h : Q .normal a w) : wpAnyT P md ops Q S t fuel listed a w:=by
 cases fuel with
 | zero=>exact ⟨hr,h⟩
 | succ n=>exact ⟨fun _=>h,fun i hi=>(by rw [hr] at hi; cases hi)⟩
theorem wp_region_T {id : Nat} {a : Act} {w : World} (hm : P.follows .mixedOrders = true)
 (h : wpAnyT P .any ops Q S t ops.size (Array.replicate ops.size false) a w.drew) : (Code.region id ops true).wp P Q a w:=
 wp_region_any hm (wpAny_of_T _ _ _ _ h)
end
end Go.Proofs.YtpboohfofodeeaaGreatDoor
/- As XLast's law; the last operation need wait for the others only through others (conditions: none). -/
namespace Go.Proofs.YtpboohfofodeeaaGreatDoor
open Go
section
variable {P : Program} {ops : Array Oper} {Q : Exit → Act → World → Prop} {md : Region.Mode} {S : World → Prop} {t : Nat}
/-- Whatever is listed, what it waits for is; the last one is not listed. -/
def headB (md : Region.Mode) (ops : Array Oper) (t : Nat) (listed : Array Bool) : Bool:=
 (listed.size == ops.size) && (t + 1 == ops.size) && (listed.getD t true == false) &&
  (List.range ops.size).all fun j=>match ops[j]? with
   | some oj=>!(listed.getD j false) || oj.after.all fun e=>!(Region.binds md e) || listed.getD e.on false
   | none=>false
theorem headB_spec {listed : Array Bool} (h : headB md ops t listed = true) : HeadInv md ops t listed ∧ t + 1 = ops.size:=by
 unfold headB at h
 simp only [Bool.and_eq_true,beq_iff_eq] at h
 obtain ⟨⟨⟨h1,h2⟩,h3⟩,h4⟩:=h
 refine ⟨⟨h1,fun j oj hj hl e he hb=>?_,fun k hk hk'=>?_⟩,h2⟩
 ·have h5:=List.all_eq_true.1 h4 j (List.mem_range.2 (Array.getElem?_eq_some_iff.1 hj).1)
  rw [hj] at h5
  simp only [hl,Bool.not_true,Bool.false_or] at h5
  have h6:=Array.all_eq_true_iff_forall_mem.1 h5 e he
  rw [hb] at h6
  simpa using h6
 ·have : k = t:=by omega
  subst this
  exact h3
theorem wpAnyT_first2 (hs : Region.sinkB md ops t = true) (hc : Region.chainB md ops t = true) (htl : t + 1 = ops.size) {i : Nat} {oi : Oper} {v : Value} (hit : i < t) (hi : ops[i]? = some oi) (hsel : ∀ (j : Nat) (o : Oper) cs b,ops[j]? = some o → o.op ≠ .select cs b)
 (hQ : ∀ c a w,Q (.panic c) (a.put oi.dst v) w → Q (.panic c) a w) :
 ∀ (fuel : Nat) (listed : Array Bool) (a : Act) (w : World),HeadInv md ops t listed →
  (∀ j oj,ops[j]? = some oj → j ≠ i → listed.getD j true = false → (∀ e ∈ oj.after,Region.binds md e = true → e.on ≠ i) → oi.apart ops oj = true) →
  i ∈ Region.ready md ops listed → YieldsIf P ops S oi v a → S w →
  wpAnyT P md ops Q S t fuel (listed.setIfInBounds i true) (a.put oi.dst v) w → wpAnyT P md ops Q S t (fuel + 1) listed a w:=by
 intro fuel
 induction fuel with
 | zero=>
  intro listed a w inv _ hr hy hS H
  refine ⟨fun h=>(by rw [h] at hr; cases hr),fun j hj=>?_⟩
  by_cases hji : j = i
  ·subst hji; exact hy.wpOp hi hS ⟨fun _=>hS,H⟩
  ·have:=ready_mono hj hji
   rw [H.1] at this
   cases this
 | succ fuel ih=>
  intro listed a w inv hfree hr hy hS H
  refine ⟨fun h=>(by rw [h] at hr; cases hr),fun j hj=>?_⟩
  by_cases hji : j = i
  ·subst hji; exact hy.wpOp hi hS ⟨fun _=>hS,H⟩
  ·have h1:=H.2 j (ready_mono hj hji)
   have hjt : j ≠ t:=fun e=>tail_waits hs hc (by omega) inv (t - i) i rfl hit (mem_ready.1 hr).1 t (Nat.le_refl _) (e ▸ hj)
   obtain ⟨hjun,oj,hoj,hall⟩:=mem_ready.1 hj
   have hjlt : j < t:=by
    have:=(Array.getElem?_eq_some_iff.1 hoj).1
    omega
   have hnot : ∀ e ∈ oj.after,Region.binds md e = true → e.on ≠ i:=fun e he hb heq=>by
    have h1:=hall e he hb
    have h0:=(mem_ready.1 hr).1
    rw [heq,getD_both h0] at h1
    cases h1
   have h2:=wpOp_putIf hoj (hfree j oj hoj hji hjun hnot) (fun cs b=>hsel i oi cs b hi) (fun cs b=>hsel j oj cs b hoj) hQ hy h1
   have hfree' : ∀ k ok,ops[k]? = some ok → k ≠ i → (listed.setIfInBounds j true).getD k true = false →
    (∀ e ∈ ok.after,Region.binds md e = true → e.on ≠ i) → oi.apart ops ok = true:=fun k ok hk hki hun hno=>by
    refine hfree k ok hk hki ?_ hno
    by_cases hjk : j = k
    ·subst hjk; exact hjun
    ·rw [getD_set_ne true hjk] at hun; exact hun
   refine wpOp_mono (fun a' w' h3=>⟨fun _=>h3.2.1 hjt,ih (listed.setIfInBounds j true) a' w' (inv.set hj hjlt) hfree' (ready_mono hr (Ne.symm hji)) h3.1 (h3.2.1 hjt) ?_⟩) h2
   rw [Array.setIfInBounds_comm _ _ hji]
   exact h3.2.2
theorem wpAnyT_take2 (hs : (Region.sinkB md ops t && Region.chainB md ops t) = true) (i : Nat) {oi : Oper} {v : Value} {fuel : Nat} {listed : Array Bool} {a : Act} {w : World} (hh : headB md ops t listed = true) (hit : i < t) (hi : ops[i]? = some oi)
 (hns : Region.noSelect ops = true) (hf : Region.free md ops listed i = true) (hr : (Region.ready md ops listed).contains i = true)
 (hQ : ∀ c a w,Q (.panic c) (a.put oi.dst v) w → Q (.panic c) a w) (hy : YieldsIf P ops S oi v a) (hS : S w)
 (h : wpAnyT P md ops Q S t fuel (listed.setIfInBounds i true) (a.put oi.dst v) w) : wpAnyT P md ops Q S t (fuel + 1) listed a w:=by
 rw [Bool.and_eq_true] at hs
 exact wpAnyT_first2 hs.1 hs.2 (headB_spec hh).2 hit hi (Region.noSelect_spec hns) hQ fuel listed a w (headB_spec hh).1 (Region.free_spec hi hf) (by simpa using hr) hy hS h
end
end Go.Proofs.YtpboohfofodeeaaGreatDoor
/- state: take, the way of a piece (conditions: none). -/
namespace Go.Proofs.YtpboohfofodeeaaGreatDoor
open Go.RowKit Go.Maps
theorem FlsT.row_ {base c : Nat} {w w' : World} {f b m : Nat} {own : Int → Own} {fs : FS} (h : FlsT base c w f b m own fs) (ino : Int) (a : NodeA) (ha : fs.N ino = some a) (v' : Value) (l : List (Int × ByteArray)) (hk : Keep (fun i=>some i = (own ino).v.ownBlock ∨ i = (own ino).g) w w')
 (hblk : Blk w' (own ino).g 135 (nodeC a.nd v' (own ino).ab)) (hrow : w'.ownsRow base 111 2 v' l.length (pcCs l)) (hl : l.length ≤ c + 1) (hat : v'.ownBlock = (own ino).v.ownBlock ∨ ∃ i,v'.ownBlock = some i ∧ w.heap.size ≤ i) :
 FlsT base (c + 1) w' f b m (ownU own ino { own ino with v:=v' }) { fs with N:=upd fs.N ino { a with ps:=l } }:=by
 have hA:=h.node ino a ha
 obtain ⟨an,xA,yA⟩:=hA.att
 obtain ⟨n1,x1,y1⟩:=h.nodes
 obtain ⟨n2,x2,y2⟩:=h.names
 obtain ⟨es1,cl1,o1⟩:=y1.obj
 obtain ⟨es2,cl2,o2⟩:=y2.obj
 have hmap : ∀ i es cl,w.heap[i]? = some (.map es cl) → ¬ (some i = (own ino).v.ownBlock ∨ i = (own ino).g):=fun i es cl ho he=>he.elim (fun he=>hA.row_map ho i he.symm rfl) (fun he=>blk_ne_map hA.blk ho he.symm)
 have hnn : ∀ k z,upd fs.N ino { a with ps:=l } k = some z → ∃ z',fs.N k = some z':=fun k z e=>by
  unfold upd at e
  by_cases h1 : k = ino
  ·exact ⟨a,by rw [h1]; exact ha⟩
  ·rw [if_neg h1] at e; exact ⟨z,e⟩
 have hblkf : ¬ (some f = (own ino).v.ownBlock ∨ f = (own ino).g):=fun he=>he.elim (fun he=>hA.row_ne h.blk (by decide) f he.symm rfl) (fun he=>Blk.ne_ h.blk hA.blk (by decide) he)
 have ho' : ∀ k,(ownU own ino { own ino with v:=v' } k).g = (own k).g ∧ (ownU own ino { own ino with v:=v' } k).ab = (own k).ab:=fun k=>by
  unfold ownU
  by_cases e : k = ino
  ·subst e; rw [if_pos rfl]; exact ⟨rfl,rfl⟩
  ·rw [if_neg e]; exact ⟨rfl,rfl⟩
 refine ⟨h.blk.keep hk hblkf,⟨n1,by omega,by
  show MapI _ _ _ _ (fun k=>(upd fs.N ino { a with ps:=l } k).map fun _=>ptrG (ownU own ino { own ino with v:=v' } k).g) _
  rw [nodesF_same fs.N own _ ino a _ ha (fun k=>(ho' k).1)]; exact y1.keep hk (hmap _ _ _ o1)⟩,⟨n2,by omega,y2.keep hk (hmap _ _ _ o2)⟩,fun k z e=>?_,fun j k x y hjk hj hk'=>?_,⟨h.ne.1,fun k z e=>?_⟩,h.lo,h.wf⟩
 ·have e : upd fs.N ino { a with ps:=l } k = some z:=e
  unfold upd at e
  by_cases h1 : k = ino
  ·rw [if_pos h1] at e; cases e
   subst h1
   unfold ownU
   rw [if_pos rfl]
   obtain ⟨es,cl,ho⟩:=yA.obj
   exact ⟨hblk,hrow,hl,⟨an,by omega,yA.keep hk (hmap _ _ _ ho)⟩,hA.lo⟩
  ·rw [if_neg h1] at e
   have hz:=h.node k z e
   have hap:=h.apart k ino z a h1 e ha
   unfold ownU
   rw [if_neg h1]
   obtain ⟨an',_,y'⟩:=hz.att
   obtain ⟨es,cl,ho⟩:=y'.obj
   refine (hz.keep hk (fun he=>he.elim (fun he=>hA.row_ne hz.blk (by decide) _ he.symm rfl) (fun he=>hap.1 he)) (hmap _ _ _ ho) (fun i hi he=>he.elim (fun he=>hap.2.2 i hi he.symm) (fun he=>hz.row_ne hA.blk (by decide) i hi he))).more (Nat.le_succ c)
 ·obtain ⟨x',hx⟩:=hnn j x hj
  obtain ⟨y',hy⟩:=hnn k y hk'
  have hap:=h.apart j k x' y' hjk hx hy
  refine ⟨by rw [(ho' j).1,(ho' k).1]; exact hap.1,by rw [(ho' j).2,(ho' k).2]; exact hap.2.1,fun i hi=>?_⟩
  unfold ownU at hi ⊢
  by_cases e1 : j = ino
  ·have e2 : ¬ k = ino:=fun e=>hjk (e1.trans e.symm)
   rw [if_pos e1] at hi
   rw [if_neg e2]
   simp only at hi
   rcases hat with hat | ⟨g,hat,hge⟩
   ·rw [hat,← e1] at hi; exact hap.2.2 i hi
   ·intro hi2
    have:=(h.node k y' hy).row.lt i hi2
    rw [hat] at hi; cases hi
    omega
  ·rw [if_neg e1] at hi
   by_cases e2 : k = ino
   ·rw [if_pos e2]
    simp only
    rcases hat with hat | ⟨g,hat,hge⟩
    ·rw [hat,← e2]; exact hap.2.2 i hi
    ·intro hi2
     have:=(h.node j x' hx).row.lt i hi
     rw [hat] at hi2; cases hi2
     omega
   ·rw [if_neg e2]; exact hap.2.2 i hi
 ·obtain ⟨z',hz⟩:=hnn k z e
  rw [(ho' k).2]
  exact h.ne.2 k z' hz
theorem info_piece : (Tryz.prog.info? 111).map (fun i=>(i.zero,i.size,i.bytes)) = some (some (.agg #[.int .i64 0,.string ⟨#[]⟩]),2,24):=by kernel_rfl
set_option maxRecDepth 100000 in
set_option maxHeartbeats 2000000 in
theorem take_pc {base c : Nat} {w : World} {f b m : Nat} {own : Int → Own} {fs : FS} (h : FlsT base c w f b m own fs) (k v : ByteArray) (hk : k.size ≤ 140737488351232) (_hv : v.size ≤ 140737488351232) (hlow : base ≤ w.heap.size) (hK : isKey k) (hkind : (rawKey k).1 = 112) (hc : c < 1099511627776) (a : NodeA) (ha : fs.N (rawKey k).2.1 = some a) :
 Calls Tryz.prog 45 #[Pa f,.agg #[.string k,.string v]] w (TakeEnds base c w f b m fs k v):=by
 have hq : itS fs k v = some { fs with N:=upd fs.N (rawKey k).2.1 { a with ps:=a.ps ++ [((rawKey k).2.2.2.1,v)] } }:=by
  unfold itS parseK
  rw [dif_pos hK,if_neg (by omega),if_neg (by omega),if_neg (by omega),if_neg (by omega)]
  simp only [ha]
 have hP:=Lib.hid (fun W=>pkey_is hK W hk)
 rw [hkind] at hP
 have hwf:=key_wf hK
 have hinf:=Lib.hid (key_parts hK)
 generalize (rawKey k).2.1 = ino at *
 generalize (rawKey k).2.2.1 = name at *
 generalize (rawKey k).2.2.2.1 = ix at *
 have H:=Lib.hid h
 have HQ:=Lib.hid hq
 have hX:=Blk.new w 59 #[.string k,.string v]
 have hb0 : Below w.heap.size w (w.alloc (.cells #[.string k,.string v] 59)):=(Below.refl _ _).alloc (Nat.le_refl _) _
 have HB0:=Lib.hid hb0
 have HX:=Lib.hid hX
 clear hb0 h hq hX
 go_enter Tryz.func45,Tryz.ntmps45
 go_wp2_with (go_at_call 93; refine (hP.out _).mono ?_; rintro e w1 ⟨rfl,hb⟩; have HB:=Lib.hid (bl_t HB0.out hb); have HX1:=Lib.hid (blk_below HX.out hb); clear hb)
 have hF:=H.out.below (HB.out.alloc HB.out.size (.cells #[.int .u8 112,.int .i64 ino,.string name,.int .i64 ix] 99))
 have hL:=look_nodes hF ino hwf
 have hKB:=Blk.new w1 99 #[.int .u8 112,.int .i64 ino,.string name,.int .i64 ix]
 obtain ⟨k0,k1,k2,k3⟩:=@key_cells w1 112 ino ix name
 have d1 : (w1.alloc (.cells #[.int .u8 112,.int .i64 ino,.string name,.int .i64 ix] 99)).cell? ⟨f,1,none⟩ = some (.map (some b)):=hF.blk.cell 1
 have hx2:=HX1.out.alloc (.cells #[.int .u8 112,.int .i64 ino,.string name,.int .i64 ix] 99)
 have HF:=Lib.hid hF
 have HB2:=Lib.hid (HB.out.alloc HB.out.size (.cells #[.int .u8 112,.int .i64 ino,.string name,.int .i64 ix] 99))
 have HKB:=Lib.hid hKB
 have HX2:=Lib.hid hx2
 clear hF hx2 hKB
 generalize w1.alloc (.cells #[.int .u8 112,.int .i64 ino,.string name,.int .i64 ix] 99) = w2 at *
 generalize w1.heap.size = kb at *
 go_quiet (fail)
 have HB3:=Lib.hid (below_drewN HB2.out nq)
 have HF3:=Lib.hid (HF.out.below (below_drewN (Below.refl _ _) nq))
 have HKB3:=Lib.hid (HKB.out.drewN nq)
 have HX3:=Lib.hid (HX2.out.drewN nq)
 have x1 : (w2.drewN nq).cell? ⟨w.heap.size,1,none⟩ = some (.string v):=HX3.out.cell 1
 have q0 : (w2.drewN nq).cell? ⟨kb,0,none⟩ = some (.int .u8 112):=k0
 have q1 : (w2.drewN nq).cell? ⟨kb,1,none⟩ = some (.int .i64 ino):=k1
 have q2 : (w2.drewN nq).cell? ⟨kb,2,none⟩ = some (.string name):=k2
 have q3 : (w2.drewN nq).cell? ⟨kb,3,none⟩ = some (.int .i64 ix):=k3
 clear hL k0 k1 k2 k3 d1 HB2 HF HKB HX2
 generalize w2.drewN nq = w3 at *
 try simp only [ha,Option.map_some,Option.getD_some]
 obtain ⟨i0,hi,hz0,hz1,hz2⟩:=info_parts info_piece
 have hNA:=HF3.out.node ino a ha
 have hrow:=hNA.row
 obtain ⟨A,q,hvv⟩:=own_slice hrow
 rw [hvv] at hrow
 have e6 : w3.cell? ⟨(own ino).g,6,none⟩ = some (.slice A a.ps.length q):=by rw [← hvv]; exact hNA.blk.cell 6
 have hfew:=hNA.few
 have hgl:=hNA.blk.lt
 have HROW:=Lib.hid hrow
 have HNA:=Lib.hid hNA
 have HV:=Lib.hid hvv
 clear hrow hNA hvv
 generalize hga : (own ino).g = ga at *
 unfold ptrG
 go_wp2
 have hS0 : (fun w'=>w'.cell? ⟨ga,6,none⟩ = some (.slice A a.ps.length q) ∧ w'.cell? ⟨kb,3,none⟩ = some (.int .i64 ix) ∧ w'.cell? ⟨w.heap.size,1,none⟩ = some (.string v)) w3.drew:=⟨e6,q3,x1⟩
 refine wp_region_T (S:=(fun w'=>w'.cell? ⟨ga,6,none⟩ = some (.slice A a.ps.length q) ∧ w'.cell? ⟨kb,3,none⟩ = some (.int .i64 ix) ∧ w'.cell? ⟨w.heap.size,1,none⟩ = some (.string v))) (t:=14) (by kernel_rfl) ?_
 refine' wpAnyT_take2 (by kernel_rfl) 0 (v:=_) (by kernel_rfl) (by decide) rfl (by kernel_rfl) (by kernel_rfl) (by kernel_rfl) (fun _ _ _ h=>h) (Or.inl ⟨by rfl,?hy0⟩) (by assumption) ?rest0
 case hy0=>(intro w hSw; (try dsimp only at hSw); go_simp; (try with_reducible rfl))
 try simp only [List.getElem_toArray,List.getElem_cons_zero,Act.put,List.setIfInBounds_toArray,List.set_cons_zero,List.set_cons_succ]
 refine' wpAnyT_take2 (by kernel_rfl) 1 (v:=_) (by kernel_rfl) (by decide) rfl (by kernel_rfl) (by kernel_rfl) (by kernel_rfl) (fun _ _ _ h=>h) (Or.inl ⟨by rfl,?hy1⟩) (by assumption) ?rest1
 case hy1=>(intro w hSw; (try dsimp only at hSw); go_simp; (try with_reducible rfl))
 try simp only [List.getElem_toArray,List.getElem_cons_zero,List.getElem_cons_succ,Act.put,List.setIfInBounds_toArray,List.set_cons_zero,List.set_cons_succ]
 refine' wpAnyT_take2 (by kernel_rfl) 2 (v:=_) (by kernel_rfl) (by decide) rfl (by kernel_rfl) (by kernel_rfl) (by kernel_rfl) (fun _ _ _ h=>h) (Or.inl ⟨by rfl,?hy2⟩) (by assumption) ?rest2
 case hy2=>(intro w hSw; (try dsimp only at hSw); go_simp; (try with_reducible rfl))
 try simp only [List.getElem_toArray,List.getElem_cons_zero,List.getElem_cons_succ,Act.put,List.setIfInBounds_toArray,List.set_cons_zero,List.set_cons_succ]
 refine' wpAnyT_take2 (by kernel_rfl) 3 (v:=_) (by kernel_rfl) (by decide) rfl (by kernel_rfl) (by kernel_rfl) (by kernel_rfl) (fun _ _ _ h=>h) (Or.inl ⟨by rfl,?hy3⟩) (by assumption) ?rest3
 case hy3=>(intro w hSw; (try dsimp only at hSw); go_simp; (try with_reducible rfl))
 try simp only [List.getElem_toArray,List.getElem_cons_zero,List.getElem_cons_succ,Act.put,List.setIfInBounds_toArray,List.set_cons_zero,List.set_cons_succ]
 refine' wpAnyT_take2 (by kernel_rfl) 4 (v:=_) (by kernel_rfl) (by decide) rfl (by kernel_rfl) (by kernel_rfl) (by kernel_rfl) (fun _ _ _ h=>h) (Or.inl ⟨by rfl,?hy4⟩) (by assumption) ?rest4
 case hy4=>(intro w hSw; (try dsimp only at hSw); go_simp; (try with_reducible rfl))
 try simp only [List.getElem_toArray,List.getElem_cons_zero,List.getElem_cons_succ,Act.put,List.setIfInBounds_toArray,List.set_cons_zero,List.set_cons_succ]
 refine' wpAnyT_take2 (by kernel_rfl) 5 (v:=_) (by kernel_rfl) (by decide) rfl (by kernel_rfl) (by kernel_rfl) (by kernel_rfl) (fun _ _ _ h=>h) (Or.inl ⟨by rfl,?hy5⟩) (by assumption) ?rest5
 case hy5=>(intro w hSw; (try dsimp only at hSw); go_simp; (try with_reducible rfl))
 try simp only [List.getElem_toArray,List.getElem_cons_zero,List.getElem_cons_succ,Act.put,List.setIfInBounds_toArray,List.set_cons_zero,List.set_cons_succ]
 refine' wpAnyT_take2 (by kernel_rfl) 6 (v:=_) (by kernel_rfl) (by decide) rfl (by kernel_rfl) (by kernel_rfl) (by kernel_rfl) (fun _ _ _ h=>h) (Or.inl ⟨by rfl,?hy6⟩) (by assumption) ?rest6
 case hy6=>(intro w hSw; (try dsimp only at hSw); go_simp; (try with_reducible rfl))
 try simp only [List.getElem_toArray,List.getElem_cons_zero,List.getElem_cons_succ,Act.put,List.setIfInBounds_toArray,List.set_cons_zero,List.set_cons_succ]
 refine' wpAnyT_take2 (by kernel_rfl) 7 (v:=_) (by kernel_rfl) (by decide) rfl (by kernel_rfl) (by kernel_rfl) (by kernel_rfl) (fun _ _ _ h=>h) (Or.inl ⟨by rfl,?hy7⟩) (by assumption) ?rest7
 case hy7=>(intro w hSw; (try dsimp only at hSw); go_simp; (try with_reducible rfl))
 try simp only [List.getElem_toArray,List.getElem_cons_zero,List.getElem_cons_succ,Act.put,List.setIfInBounds_toArray,List.set_cons_zero,List.set_cons_succ]
 refine' wpAnyT_take2 (by kernel_rfl) 8 (v:=_) (by kernel_rfl) (by decide) rfl (by kernel_rfl) (by kernel_rfl) (by kernel_rfl) (fun _ _ _ h=>h) (Or.inl ⟨by rfl,?hy8⟩) (by assumption) ?rest8
 case hy8=>(intro w hSw; (try dsimp only at hSw); go_simp; (try with_reducible rfl))
 try simp only [List.getElem_toArray,List.getElem_cons_zero,List.getElem_cons_succ,Act.put,List.setIfInBounds_toArray,List.set_cons_zero,List.set_cons_succ]
 refine' wpAnyT_take2 (by kernel_rfl) 9 (v:=_) (by kernel_rfl) (by decide) rfl (by kernel_rfl) (by kernel_rfl) (by kernel_rfl) (fun _ _ _ h=>h) (Or.inl ⟨by rfl,?hy9⟩) (by assumption) ?rest9
 case hy9=>(intro w hSw; (try dsimp only at hSw); go_simp; (try with_reducible rfl))
 try simp only [List.getElem_toArray,List.getElem_cons_zero,List.getElem_cons_succ,Act.put,List.setIfInBounds_toArray,List.set_cons_zero,List.set_cons_succ]
 have HBA:=Lib.hid (show Below w3.heap.size w3 (w3.drew.alloc (.cells #[.int .i64 ix,.string v] 111)) from ((Below.refl _ w3).drew).alloc (Nat.le_refl _) _)
 have a6:=keepc' HBA.out e6
 have a3:=keepc' HBA.out q3
 have a1:=keepc' HBA.out x1
 refine wpAnyT_one 10 (by kernel_rfl) rfl (fun K hK=>?_)
 go_simp
 refine hK.out _ _ (fun _=>⟨a6,a3,a1⟩) ?_
 clear hK K
 refine wpAnyT_one 11 (by kernel_rfl) rfl (fun K hK=>?_)
 refine step_append_any _ (by rfl) (.tmp 53) (.tmp 59) _ (by rfl) base 111 i0 (.agg #[.int .i64 0,.string ⟨#[]⟩]) 2 24 Tryz.underlying65 hi hz0 hz1 hz2 rfl (by decide) (.slice A a.ps.length q) a.ps.length (pcCs a.ps) (by rfl) (own_keep HROW.out (Keep.of_below HBA.out (fun _=>False)) (fun _ _ h=>h)) (w3.heap.size + 1) (some ⟨w3.heap.size,0,none⟩) 1 1 [.int .i64 ix,.string v] (by rfl) ⟨rfl,fun _=>⟨_,rfl,Nat.lt_succ_self _,World.news_of_block (heap_alloc_new w3.drew _)⟩⟩ (by simp [Value.oneCell']) (by unfold maxLen; omega) (by omega) (Nat.le_trans hlow (Nat.le_trans HB3.out.size HBA.out.size)) ?_
 intro v8 w8 hown8 hg8 hat8
 obtain ⟨A8,q8,rfl⟩:=own_slice hown8
 have hk8 : Keep (fun i=>some i = (Value.slice A a.ps.length q).ownBlock) w3 w8:=(Keep.of_below HBA.out _).grown hg8 (fun k hk=>.inl hk.symm)
 have hng : ¬ (some ga = (Value.slice A a.ps.length q).ownBlock):=fun he=>own_blk_ne HROW.out (hga ▸ HNA.out.blk) (by decide) he.symm
 have hnk : ¬ (some kb = (Value.slice A a.ps.length q).ownBlock):=fun he=>own_blk_ne HROW.out HKB3.out (by decide) he.symm
 have hnx : ¬ (some w.heap.size = (Value.slice A a.ps.length q).ownBlock):=fun he=>own_blk_ne HROW.out HX3.out (by decide) he.symm
 have s6:=hk8.cell e6 hng
 have s3:=hk8.cell q3 hnk
 have s1:=hk8.cell x1 hnx
 have hblk8 : Blk w8 ga 135 (nodeC a.nd (own ino).v (own ino).ab):=(hga ▸ HNA.out.blk).keep hk8 hng
 have fr6:=hblk8.frozen 6
 have HBLK8:=Lib.hid hblk8
 have HOWN8:=Lib.hid hown8
 have HK8:=Lib.hid hk8
 have HAT8:=Lib.hid hat8
 clear hown8 hg8 hat8 hk8 hng hnk hnx hblk8
 refine hK.out _ _ (fun _=>⟨s6,s3,s1⟩) ?_
 clear hK K
 refine wpAnyT_one 12 (by kernel_rfl) rfl (fun K hK=>?_)
 go_simp
 refine hK.out _ _ (fun _=>⟨s6,s3,s1⟩) ?_
 clear hK K
 refine wpAnyT_one 13 (by kernel_rfl) rfl (fun K hK=>?_)
 go_simp
 refine hK.out _ _ (fun _=>⟨s6,s3,s1⟩) ?_
 clear hK K
 refine wpAnyT_one 14 (by kernel_rfl) rfl (fun K hK=>?_)
 go_simp
 refine hK.out _ _ (fun h=>absurd rfl h) ?_
 clear hK K
 refine wpAnyT_done (by kernel_rfl) ?_
 have hk9 : Keep (fun i=>some i = (own ino).v.ownBlock ∨ i = (own ino).g) w3 (w8.setCell ⟨ga,6,none⟩ (.slice A8 (a.ps.length + 1) q8)):=(HK8.out.mono (fun i _ h=>.inl (by rw [HV.out]; exact h))).setCell (p:=⟨ga,6,none⟩) (.inl (.inr hga.symm)) _
 have hblk9 : Blk (w8.setCell ⟨ga,6,none⟩ (.slice A8 (a.ps.length + 1) q8)) (own ino).g 135 (nodeC a.nd (.slice A8 (a.ps.length + 1) q8) (own ino).ab):=by rw [hga]; exact HBLK8.out.set_ 6 _
 have hrow9 : (w8.setCell ⟨ga,6,none⟩ (.slice A8 (a.ps.length + 1) q8)).ownsRow base 111 2 (.slice A8 (a.ps.length + 1) q8) (a.ps ++ [(ix,v)]).length (pcCs (a.ps ++ [(ix,v)])):=by
  rw [pcCs_snoc,List.length_append]
  exact own_keep HOWN8.out ((Keep.refl (fun i=>i = ga) w8).setCell (p:=⟨ga,6,none⟩) (.inl rfl) _) (fun i hi he=>own_blk_ne HOWN8.out HBLK8.out (by decide) (by rw [hi,he]))
 have hF9:=HF3.out.row_ ino a ha _ (a.ps ++ [(ix,v)]) hk9 hblk9 hrow9 (by simp; omega) (by rw [HV.out]; exact HAT8.out.imp id (fun h=>⟨_,h,HBA.out.size⟩))
 have hlo:=HNA.out.lo.1
 have hB9 : Below base w (w8.setCell ⟨ga,6,none⟩ (.slice A8 (a.ps.length + 1) q8)):=(HB3.out.mono hlow).trans (hk9.to_below (Nat.le_trans hlow HB3.out.size) (fun i hi=>hi.elim (fun h=>own_ge HNA.out.row h.symm) (fun h=>by rw [h]; exact hlo)))
 have HF9:=Lib.hid hF9
 have HB9:=Lib.hid hB9
 clear hF9 hB9 hrow9 hblk9 hk9
 go_wp2
 go_ret
 exact ⟨HB9.out,.inl ⟨_,_,HQ.out,rfl,HF9.out⟩⟩
end Go.Proofs.YtpboohfofodeeaaGreatDoor
/- state: take whole (conditions: none). -/
namespace Go.Proofs.YtpboohfofodeeaaGreatDoor
open Go.RowKit Go.Maps
theorem st_take {base c : Nat} {w : World} {f b m : Nat} {own : Int → Own} {fs : FS} (h : FlsT base c w f b m own fs) (k v : ByteArray) (hk : k.size ≤ 140737488351232) (hv : v.size ≤ 140737488351232) (hlow : base ≤ w.heap.size) (hc : c < 1099511627776) :
 Calls Tryz.prog 45 #[Pa f,.agg #[.string k,.string v]] w (TakeEnds base c w f b m fs k v):=by
 by_cases hK : isKey k
 ·have hr:=hK.2.1
  have hkinds : (rawKey k).1 = 110 ∨ (rawKey k).1 = 105 ∨ (rawKey k).1 = 100 ∨ (rawKey k).1 = 120 ∨ (rawKey k).1 = 112:=by unfold keyRight at hr; omega
  rcases hkinds with h1 | h1 | h1 | h1 | h1
  ·exact take_nxt h k v hk hv hlow hK h1
  ·exact take_nd h k v hk hv hlow hK h1 hc
  ·exact take_nm h k v hk hv hlow hK h1 hc
  ·cases ha : fs.N (rawKey k).2.1 with
   | none=>exact take_noxa h k v hk hv hlow hK h1 ha
   | some a=>exact take_xa h k v hk hv hlow hK h1 hc a ha
  ·cases ha : fs.N (rawKey k).2.1 with
   | none=>exact take_nopc h k v hk hv hlow hK h1 ha
   | some a=>exact take_pc h k v hk hv hlow hK h1 hc a ha
 ·exact take_no k v hk hlow hK
end Go.Proofs.YtpboohfofodeeaaGreatDoor
/- state: the four rules, of files in memory (conditions: none). -/
namespace Go.Proofs.YtpboohfofodeeaaGreatDoor
open Go.RowKit Go.Maps
/-- The rules of files. -/
def rootedS (fs : FS) : Prop:=(∀ k a,fs.N k = some a → k < fs.next) ∧ ∃ a,fs.N 1 = some a ∧ a.nd.kind = 2
def namedS (fs : FS) : Prop:=∀ s ino,fs.G s = some ino → (∃ a,fs.N s.1.1 = some a ∧ a.nd.kind = 2) ∧ ino ≠ 1 ∧ fs.N ino ≠ none ∧ nameB s.1.2 = true
def linkedS (fs : FS) : Prop:=∃ H,SlotsP fs.G H ∧ linkedP H fs.N
structure RightFS (fs : FS) : Prop where
 rooted : rootedS fs
 named : namedS fs
 linked : linkedS fs
 filled : filledP fs.N
theorem slots_unique {G : SlotK → Option Int} {H H' : Int → List SlotK} (h : SlotsP G H) (h' : SlotsP G H') : H = H':=by
 funext i
 obtain ⟨a1,a2,a3⟩:=h i
 obtain ⟨b1,b2,b3⟩:=h' i
 have hp : (H i).Perm (H' i):=(List.perm_ext_iff_of_nodup a1 b1).2 fun s=>(a2 s).trans (b2 s).symm
 exact hp.eq_of_pairwise (fun a b _ _ h k=>absurd (slp_trans (a:=a.1) (b:=b.1) (c:=a.1) h k) (slp_irrefl a.1)) a3 b3
theorem linkedS_iff {fs : FS} {H : Int → List SlotK} (h : SlotsP fs.G H) : linkedS fs ↔ linkedP H fs.N:=⟨fun ⟨H',h',hl⟩=>by rw [slots_unique h h']; exact hl,fun hl=>⟨H,h,hl⟩⟩
theorem pc_row {w : World} {base n q : Nat} {A : Option Addr} {ps : List (Int × ByteArray)} (h : w.ownsRow base 111 2 (.slice A n q) n (pcCs ps)) (hn : n = ps.length) : RdP w A n ps:=by
 refine ⟨hn.symm,fun h0=>?_⟩
 rcases h.2 with ⟨_,h1⟩ | ⟨g,cap,cur,hv,_,hb,h1,_,h3,h4⟩
 ·omega
 ·cases hv
  have hf:=flat_at pcC (fun _=>rfl) ps
  refine ⟨g,0,rfl,fun j x hx=>?_⟩
  have hj : j < ps.length:=(List.getElem?_eq_some_iff.1 hx).1
  have e0 : ∀ t,t < n * 2 → cur[t]? = (pcCs ps)[t]?:=fun t ht=>by
   have e1 : (cur.toList.take (n * 2))[t]? = (pcCs ps)[t]?:=by rw [h4]
   rw [List.getElem?_take_of_lt ht,Array.getElem?_toList] at e1
   exact e1
  constructor
  ·simp only [World.cell?,hb]
   rw [e0 _ (by omega)]
   show (ps.flatMap pcC)[0 + j * 2]? = _
   rw [hf,show (0 + j * 2) / 2 = j by omega,show (0 + j * 2) % 2 = 0 by omega,hx]
   rfl
  ·simp only [World.cell?,hb]
   rw [e0 _ (by omega)]
   show (ps.flatMap pcC)[0 + j * 2 + 1]? = _
   rw [hf,show (0 + j * 2 + 1) / 2 = j by omega,show (0 + j * 2 + 1) % 2 = 1 by omega,hx]
   rfl
theorem own_cap {w : World} {base n q : Nat} {e : TypeId} {size : Nat} {A : Option Addr} {xs : List Value} (h : w.ownsRow base e size (.slice A n q) n xs) : n ≤ q:=by
 rcases h.2 with ⟨e,_⟩ | ⟨g,cap,cur,e,_,_,h1,_⟩
 ·cases e; exact Nat.le_refl _
 ·cases e; exact h1
theorem NodeT.toB {base c : Nat} {w : World} {o : Own} {a : NodeA} (h : NodeT base c w o a) : NodeB w (ptrG o.g) a:=by
 have hrow:=h.row
 obtain ⟨A,q,hv⟩:=own_slice hrow
 rw [hv] at hrow
 obtain ⟨an,_,y⟩:=h.att
 have hb:=h.blk
 rw [hv] at hb
 exact ⟨o.g,A,a.ps.length,q,o.ab,an,rfl,hb,pc_row hrow rfl,own_cap hrow,y⟩
theorem FlsT.nodesB {base c : Nat} {w : World} {f b m : Nat} {own : Int → Own} {fs : FS} (h : FlsT base c w f b m own fs) : NodesB w (fun k=>(fs.N k).map fun _=>ptrG (own k).g) fs.N:=fun k=>by
 cases hk : fs.N k with
 | none=>exact .inl ⟨by simp [hk],rfl⟩
 | some a=>exact .inr ⟨ptrG (own k).g,a,by simp [hk],rfl,(h.node k a hk).toB⟩
def RuleC (f : Nat) (w : World) (fn : FuncId) (P : Prop) : Prop:=Calls Tryz.prog fn #[Pa f] w fun e w'=>TellsP P e ∧ Below w.heap.size w w'
theorem TellsP.iff_ {P Q : Prop} {e : Ending} (h : TellsP P e) (hi : P ↔ Q) : TellsP Q e:=let ⟨r,a,b⟩:=h; ⟨r,a,b.trans hi⟩
section
variable {base c : Nat} {w : World} {f b m : Nat} {own : Int → Own} {fs : FS}
theorem rule_rooted (h : FlsT base c w f b m own fs) : RuleC f w 46 (rootedS fs):=by
 obtain ⟨n,_,y⟩:=h.nodes
 refine (st_rooted h.blk y ((fs.N 1).map fun a=>a.nd.kind) (h.nodesB.kinds 1)).mono fun e w' ⟨he,hb⟩=>⟨he.iff_ ?_,hb⟩
 unfold rootedP rootedS
 constructor
 ·rintro ⟨h1,h2⟩
  refine ⟨fun k a hk=>h1 k (by simp [hk]),?_⟩
  cases h3 : fs.N 1 with
  | none=>rw [h3] at h2; cases h2
  | some a=>rw [h3] at h2; exact ⟨a,rfl,by simpa using h2⟩
 ·rintro ⟨h1,a,h2,h3⟩
  refine ⟨fun k hk=>?_,by simp [h2,h3]⟩
  cases h4 : fs.N k with
  | none=>simp [h4] at hk
  | some z=>exact h1 k z h4
theorem nmV_some {G : SlotK → Option Int} {s : SlotK} {v : Value} (h : nmV G s = some v) : ∃ i,G s = some i ∧ v = .int .i64 i:=by
 unfold nmV at h
 cases hG : G s with
 | none=>rw [hG] at h; cases h
 | some i=>rw [hG] at h; cases h; exact ⟨i,rfl,rfl⟩
theorem rule_named (h : FlsT base c w f b m own fs) (hz : ∀ s i,fs.G s = some i → s.1.2.size ≤ 255) : RuleC f w 47 (namedS fs):=by
 obtain ⟨n,_,y⟩:=h.nodes
 obtain ⟨n2,_,y2⟩:=h.names
 refine (st_named h.blk y y2 (fun k=>(fs.N k).map fun a=>a.nd.kind) h.nodesB.kinds (fun s v hv=>?_)).mono fun e w' ⟨he,hb⟩=>⟨he.iff_ ?_,hb⟩
 ·obtain ⟨i,hi,rfl⟩:=nmV_some hv
  exact ⟨i,rfl,h.wf s i hi,by have:=hz s i hi; omega⟩
 ·unfold namedP namedS
  have hk : ∀ k : Int,(fs.N k).map (fun a=>a.nd.kind) = some 2 ↔ ∃ a,fs.N k = some a ∧ a.nd.kind = 2:=fun k=>by
   cases hk : fs.N k with
   | none=>simp
   | some a=>simp
  constructor
  ·intro hq s ino hs
   obtain ⟨q1,q2,q3,q4⟩:=hq s ino (by unfold nmV; rw [hs]; rfl)
   exact ⟨(hk _).1 q1,q2,fun e=>q3 (by simp [e]),q4⟩
  ·intro hq s ino hs
   obtain ⟨i,hi,e⟩:=nmV_some hs
   cases e
   obtain ⟨q1,q2,q3,q4⟩:=hq s ino hi
   exact ⟨(hk _).2 q1,q2,by simpa using q3,q4⟩
theorem rule_linked (h : FlsT base c w f b m own fs) (hz : ∀ s i,fs.G s = some i → s.1.2.size ≤ 255) (hc : c ≤ 1099511627776) : RuleC f w 48 (linkedS fs):=by
 obtain ⟨n,_,y⟩:=h.nodes
 obtain ⟨n2,x2,y2⟩:=h.names
 refine (st_linked h.blk y y2 h.nodesB h.wf (by omega) hz).mono fun e w' ⟨he,hb⟩=>⟨?_,hb⟩
 obtain ⟨H,hS,ht⟩:=he
 exact ht.iff_ (linkedS_iff hS).symm
theorem rule_filled (h : FlsT base c w f b m own fs) (hc : c ≤ 1099511627776) : RuleC f w 49 (filledP fs.N):=by
 obtain ⟨n,_,y⟩:=h.nodes
 exact st_filled h.blk y h.nodesB (fun k a hk=>by have:=(h.node k a hk).few; omega)
end
end Go.Proofs.YtpboohfofodeeaaGreatDoor
/- The head of a region with a forced tail, walked by the cheap step (conditions: none). -/
namespace Go.Proofs.YtpboohfofodeeaaGreatDoor
open Go
theorem still_of_quiet {P : Program} {o : Oper} {a : Act} {w : World} {K : Act → Prop} (h : o.quiet P a (fun w'=>w' = w) K) : o.still P a w K:=by
 obtain ⟨v,h,hK⟩:=h
 have h1:=h w rfl
 unfold Oper.quietAt at h1
 unfold Oper.still
 cases hr : (execOp a.eval o).run P w with
 | ok n w'=>
  rw [hr] at h1
  cases n with
  | value u=>
   obtain ⟨h2,h3⟩:=h1
   subst h3
   exact ⟨h2,hK⟩
  | skip=>
   obtain ⟨h2,h3⟩:=h1
   subst h3
   exact ⟨h2,hK⟩
  | enter f args=>exact ⟨h1.1,v,h1.2,hK⟩
  | _=>exact h1.elim
 | halt x w'=>rw [hr] at h1; exact h1.elim
theorem wpStill_of_quiet {P : Program} {ops : Array Oper} {w : World} {Q : Act → Prop} : ∀ (l : List Oper) (a : Act),wpQuiet P ops (fun w'=>w' = w) Q l a → wpStill P ops w Q l a
 | [],_,h=>h
 | o :: rest,a,h=>by
  unfold wpQuiet at h
  unfold wpStill
  split
  ·rename_i hw
   rw [if_pos hw] at h
   have h2 : o.quiet P a (fun w'=>w' = w) (wpStill P ops w Q rest):=let ⟨v,h1,h2⟩:=h; ⟨v,h1,wpStill_of_quiet rest _ h2⟩
   exact still_of_quiet h2
  ·rename_i hw
   rw [if_neg hw] at h
   exact wpStill_of_quiet rest _ h
/-- A region that draws: the first n operations only read (walk them by 'go_big_quiet_step'), the rest come in one order. -/
theorem wp_region_quiet_tail {P : Program} {id : Nat} {Q : Exit → Act → World → Prop} {a : Act} {w : World} {l : List Oper} (n : Nat) (hm : P.follows .mixedOrders = true) (hB : Region.lexTailB .any l.toArray n = true)
 (h : wpQuiet P l.toArray (fun w'=>w' = w.drew) (fun a'=>wpList P l.toArray Q (l.drop n) a' w.drew) (l.take n) a) : (Code.region id l.toArray true).wp P Q a w:=
 wp_region_still_tail n hm hB (wpStill_of_quiet _ _ h)
end Go.Proofs.YtpboohfofodeeaaGreatDoor
