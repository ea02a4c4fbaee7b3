/- Files, plainly: items that were told are taken again, and are the files that told them (conditions: none). -/
import Derived.Test.YtpboohfofodeeaaGreatDoorM36
import Derived.Test.YtpboohfofodeeaaGreatDoorM26
import Derived.Test.YtpboohfofodeeaaGreatDoorM35
namespace Go.Proofs.YtpboohfofodeeaaGreatDoor
open Go.RowKit Go.Maps
/-- Files whose items can be taken. -/
structure Canon (fs : FS) : Prop where
 next : numOk fs.next
 node : ∀ k a,fs.N k = some a → (KK.nd k).ok ∧ a.nd.right ∧ -9223372036854775808 ≤ a.nd.time ∧ a.nd.time ≤ 9223372036854775807
 name : ∀ s i,fs.G s = some i → (KK.nm s).ok ∧ (Lit.int .i64 i).wf = true
 piece : ∀ k a,fs.N k = some a → Rises a.ps ∧ ∀ p ∈ a.ps,(KK.pc k p.1).ok
 attr : ∀ k a,fs.N k = some a → ∀ s v,a.at_ s = some v → (KK.xa k s).ok ∧ nameB s = true ∧ v.size ≤ 120
theorem Canon.key {fs : FS} (h : Canon fs) {q : KK × ByteArray} (hq : HasIt fs q) : q.1.ok:=by
 obtain ⟨k,v⟩:=q
 cases k with
 | nxt=>trivial
 | nm s=>obtain ⟨i,hi,_⟩:=hq; exact (h.name s i hi).1
 | nd k=>obtain ⟨a,ha,_⟩:=hq; exact (h.node k a ha).1
 | pc k ix=>obtain ⟨a,ha,hp⟩:=hq; exact (h.piece k a ha).2 _ hp
 | xa k s=>obtain ⟨a,ha,hs⟩:=hq; exact (h.attr k a ha s v hs).1
theorem kk_inj {a b : KK} (ha : a.ok) (hb : b.ok) (h : kkText a = kkText b) : a = b:=by
 have h1:=parse_text ha
 have h2:=parse_text hb
 rw [h,h2] at h1
 exact (Option.some.inj h1).symm
theorem nil_app (a : ByteArray) : (⟨#[]⟩ : ByteArray) ++ a = a:=ByteArray.empty_append
theorem inoV_read {i : Int} (h : (Lit.int .i64 i).wf = true) : rawNum (inoV i) = (i,0):=by
 have hr : -9223372036854775808 ≤ i ∧ i ≤ 9223372036854775807:=by
  simp only [Lit.wf,Bool.and_eq_true,decide_eq_true_eq] at h
  exact h
 have hu:=u64_of i
 have hz:=fix8_size (IntKind.u64.wrap i)
 have hf : fixedS (fix8 (IntKind.u64.wrap i)) 0 0 = (IntKind.u64.wrap i,8,0):=by
  have h:=fixed_read (A:=⟨#[]⟩) (R:=⟨#[]⟩) hu
  rw [app_nil,nil_app] at h
  exact h
 unfold inoV rawNum
 rw [hf]
 simp only [hz]
 rw [wrap_time hr]
 simp
end Go.Proofs.YtpboohfofodeeaaGreatDoor
/- The order of keys' texts, plainly (conditions: none). -/
namespace Go.Proofs.YtpboohfofodeeaaGreatDoor
open Go.RowKit Go.Maps
/-- Numbers' lists, one before the other. -/
def numsLt : List Int → List Int → Prop
 | _,[]=>False
 | [],_ :: _=>True
 | x :: s,y :: t=>x < y ∨ (x = y ∧ numsLt s t)
theorem numsLt_app : ∀ (l : List Int) {s t : List Int},numsLt s t → numsLt (l ++ s) (l ++ t)
 | [],_,_,h=>h
 | _x :: l,_,_,h=>.inr ⟨rfl,numsLt_app l h⟩
theorem btLt_nums : ∀ {s t : List Int},(∀ x ∈ s,0 ≤ x ∧ x < 256) → (∀ x ∈ t,0 ≤ x ∧ x < 256) → numsLt s t → Lib.compareBytes (s.map fun n=>UInt8.ofNat n.toNat) (t.map fun n=>UInt8.ofNat n.toNat) < 0
 | _,[],_,_,h=>by unfold numsLt at h; exact h.elim
 | [],_ :: _,_,_,_=>by simp [Lib.compareBytes]
 | x :: s,y :: t,hs,ht,h=>by
  have hx:=hs x (by simp)
  have hy:=ht y (by simp)
  simp only [List.map_cons,Lib.compareBytes]
  rcases h with h | ⟨rfl,h⟩
  ·have : UInt8.ofNat x.toNat < UInt8.ofNat y.toNat:=by
    rw [UInt8.lt_iff_toNat_lt,UInt8.toNat_ofNat',UInt8.toNat_ofNat']
    omega
   simp [this]
  ·have ih:=btLt_nums (fun z hz=>hs z (by simp [hz])) (fun z hz=>ht z (by simp [hz])) h
   simp only [UInt8.lt_irrefl,if_false]
   simpa using ih
def digs : Nat → Int → List Int
 | 0,_=>[]
 | k + 1,n=>n / 256 ^ k :: digs k (n % 256 ^ k)
theorem digs_lt : ∀ (k : Nat) {a b : Int},a < b → 0 ≤ a → b < 256 ^ k → numsLt (digs k a) (digs k b)
 | 0,a,b,h,h0,h1=>by simp at h1; omega
 | k + 1,a,b,h,h0,h1=>by
  have hp : (0 : Int) < 256 ^ k:=Int.pow_pos (by decide)
  have hab : a / 256 ^ k ≤ b / 256 ^ k:=Int.ediv_le_ediv hp (by omega)
  show a / 256 ^ k < b / 256 ^ k ∨ (a / 256 ^ k = b / 256 ^ k ∧ numsLt (digs k (a % 256 ^ k)) (digs k (b % 256 ^ k)))
  by_cases e : a / 256 ^ k = b / 256 ^ k
  ·refine .inr ⟨e,digs_lt k ?_ (Int.emod_nonneg _ (by omega)) (Int.emod_lt_of_pos _ hp)⟩
   have h2:=Int.mul_ediv_add_emod a (256 ^ k)
   have h3:=Int.mul_ediv_add_emod b (256 ^ k)
   rw [e] at h2
   omega
  ·exact .inl (by omega)
theorem fixC_digs {n : Int} (h : U64 n) : fixC n 8 = digs 8 n:=by
 obtain ⟨h0,h1⟩:=h
 have hl : (List.range 8) = [0,1,2,3,4,5,6,7]:=by decide
 unfold fixC
 rw [hl]
 simp only [List.map_cons,List.map_nil,digs,List.cons.injEq,and_true]
 have t0 : (2 : Int) ^ (8 * (7 - 0)) = 72057594037927936:=by decide
 have p0 : (256 : Int) ^ 0 = 1:=by decide
 have t1 : (2 : Int) ^ (8 * (7 - 1)) = 281474976710656:=by decide
 have p1 : (256 : Int) ^ 1 = 256:=by decide
 have t2 : (2 : Int) ^ (8 * (7 - 2)) = 1099511627776:=by decide
 have p2 : (256 : Int) ^ 2 = 65536:=by decide
 have t3 : (2 : Int) ^ (8 * (7 - 3)) = 4294967296:=by decide
 have p3 : (256 : Int) ^ 3 = 16777216:=by decide
 have t4 : (2 : Int) ^ (8 * (7 - 4)) = 16777216:=by decide
 have p4 : (256 : Int) ^ 4 = 4294967296:=by decide
 have t5 : (2 : Int) ^ (8 * (7 - 5)) = 65536:=by decide
 have p5 : (256 : Int) ^ 5 = 1099511627776:=by decide
 have t6 : (2 : Int) ^ (8 * (7 - 6)) = 256:=by decide
 have p6 : (256 : Int) ^ 6 = 281474976710656:=by decide
 have t7 : (2 : Int) ^ (8 * (7 - 7)) = 1:=by decide
 have p7 : (256 : Int) ^ 7 = 72057594037927936:=by decide
 simp only [Nat.sub_self,Nat.zero_le,if_true,t0,t1,t2,t3,t4,t5,t6,t7,p0,p1,p2,p3,p4,p5,p6,p7]
 refine ⟨?_,?_,?_,?_,?_,?_,?_,?_⟩ <;> omega
theorem cb_app : ∀ (l s t : List UInt8),Lib.compareBytes (l ++ s) (l ++ t) = Lib.compareBytes s t
 | [],_,_=>rfl
 | x :: l,s,t=>by
  simp only [List.cons_append,Lib.compareBytes]
  simp [cb_app l s t]
theorem btLt_app {A X Y : ByteArray} (h : btLt X Y) : btLt (A ++ X) (A ++ Y):=by
 unfold btLt at h ⊢
 rw [ByteArray.data_append,ByteArray.data_append,Array.toList_append,Array.toList_append,cb_app]
 exact h
theorem btLt_fix8 {a b : Int} (h : a < b) (h0 : 0 ≤ a) (hb : b < 18446744073709551616) : btLt (fix8 a) (fix8 b):=by
 unfold btLt fix8
 rw [strOfNums_data,strOfNums_data]
 refine btLt_nums (fixC_lt a) (fixC_lt b) ?_
 rw [fixC_digs ⟨h0,by omega⟩,fixC_digs ⟨by omega,hb⟩]
 exact digs_lt 8 h h0 (by
  have : (256 : Int) ^ 8 = 18446744073709551616:=by decide
  omega)
theorem btLt_first {k1 k2 i j : Int} (X Y : ByteArray) (h0 : 0 ≤ k1) (h : k1 < k2) (h2 : k2 < 256) : btLt (numS k1 i ++ X) (numS k2 j ++ Y):=by
 unfold btLt numS
 simp only [ByteArray.data_append,Array.toList_append,strOfNums_data,List.map_cons,List.map_nil,List.cons_append,Lib.compareBytes]
 have : UInt8.ofNat k1.toNat < UInt8.ofNat k2.toNat:=by
  rw [UInt8.lt_iff_toNat_lt,UInt8.toNat_ofNat',UInt8.toNat_ofNat']
  omega
 simp [this]
end Go.Proofs.YtpboohfofodeeaaGreatDoor
/- Files, plainly: cut down to some keys; an item is taken (conditions: none). -/
namespace Go.Proofs.YtpboohfofodeeaaGreatDoor
open Go.RowKit Go.Maps
open Classical in
/-- Files cut down to some keys. -/
noncomputable def cut (fs : FS) (P : KK → Prop) : FS:=
 ⟨if P .nxt then fs.next else 0,
  fun k=>match fs.N k with
   | none=>none
   | some a=>if P (.nd k) then some ⟨a.nd,a.ps.filter (fun p=>decide (P (.pc k p.1))),fun s=>if P (.xa k s) then a.at_ s else none⟩ else none,
  fun s=>if P (.nm s) then fs.G s else none⟩
theorem cut_none (fs : FS) : cut fs (fun _=>False) = fs0:=by
 unfold cut fs0
 congr 1
 ·simp
 ·funext k; cases fs.N k <;> simp
 ·funext s; simp
open Classical in
theorem cut_all {fs : FS} {P : KK → Prop} (h : ∀ q,HasIt fs q → P q.1) : cut fs P = fs:=by
 obtain ⟨n,N,G⟩:=fs
 unfold cut
 congr 1
 ·rw [if_pos (h (.nxt,numV n) rfl)]
 ·funext k
  cases ha : N k with
  | none=>simp only [ha]
  | some a=>
   have hP : P (.nd k):=h (.nd k,encV a.nd) ⟨a,ha,rfl⟩
   simp only [ha]
   rw [if_pos hP]
   congr 1
   obtain ⟨nd,ps,at_⟩:=a
   congr 1
   ·refine List.filter_eq_self.2 fun p hp=>?_
    have hp' : P (.pc k p.1):=h (.pc k p.1,p.2) ⟨_,ha,hp⟩
    simpa using hp'
   ·funext s
    cases hs : at_ s with
    | none=>simp [hs]
    | some v=>
     have hx : P (.xa k s):=h (.xa k s,v) ⟨_,ha,hs⟩
     simp only [if_pos hx,hs]
 ·funext s
  show (if P (.nm s) then G s else none) = G s
  cases hs : G s with
  | none=>simp
  | some i=>
   have hx : P (.nm s):=h (.nm s,inoV i) ⟨i,hs,rfl⟩
   rw [if_pos hx]
open Classical in
theorem itS_key {fs : FS} {k : KK} (hk : k.ok) (v : ByteArray) : itS fs (kkText k) v = (match k with
 | .nxt=>if isNum v then some { fs with next:=(rawNum v).1 } else none
 | .nd ino=>if isNode v then some { fs with N:=upd fs.N ino ⟨(decRaw v).1,[],fun _=>none⟩ } else none
 | .nm s=>if (rawNum v).2 = 0 then some { fs with G:=updK fs.G s (rawNum v).1 } else none
 | .pc ino ix=>match fs.N ino with
  | none=>none
  | some a=>some { fs with N:=upd fs.N ino { a with ps:=a.ps ++ [(ix,v)] } }
 | .xa ino name=>match fs.N ino with
  | none=>none
  | some a=>if nameB name = true ∧ v.size ≤ 120 then some { fs with N:=upd fs.N ino { a with at_:=updK a.at_ name v } } else none):=by
 unfold itS
 rw [parse_text hk]
 cases k <;> rfl
open Classical in
theorem cut_nxt {fs : FS} (hC : Canon fs) {P : KK → Prop} : itS (cut fs P) (kkText .nxt) (numV fs.next) = some (cut fs (fun k=>P k ∨ k = .nxt)):=by
 have hv : numV fs.next = fix8 fs.next:=by unfold numV; rw [if_pos hC.next]
 rw [itS_key (k:=.nxt) trivial]
 simp only
 rw [hv,if_pos (isNum_fix8 hC.next),rawNum_fix8 hC.next]
 unfold cut
 simp
open Classical in
theorem cut_nm {fs : FS} (hC : Canon fs) {P : KK → Prop} {s : SlotK} {i : Int} (hi : fs.G s = some i) : itS (cut fs P) (kkText (.nm s)) (inoV i) = some (cut fs (fun k=>P k ∨ k = .nm s)):=by
 obtain ⟨hk,hw⟩:=hC.name s i hi
 rw [itS_key hk]
 simp only
 rw [inoV_read hw,if_pos rfl]
 unfold cut
 congr 2
 ·simp
 ·simp
 ·funext x
  unfold updK
  by_cases e : x = s
  ·rw [if_pos e,if_pos (.inr (by rw [e])),e,hi]
  ·rw [if_neg e]
   simp [e]
open Classical in
theorem cut_nd {fs : FS} (hC : Canon fs) {P : KK → Prop} {ino : Int} {a : NodeA} (ha : fs.N ino = some a) (hp : ∀ ix,¬ P (.pc ino ix)) (hx : ∀ s,¬ P (.xa ino s)) : itS (cut fs P) (kkText (.nd ino)) (encV a.nd) = some (cut fs (fun k=>P k ∨ k = .nd ino)):=by
 obtain ⟨hk,hr,h1,h2⟩:=hC.node ino a ha
 have hv : encV a.nd = encS a.nd:=by unfold encV; rw [if_pos hr]
 have hd:=node_read hr ⟨h1,h2⟩
 have hN : isNode (encS a.nd):=by unfold isNode; rw [hd]; exact ⟨⟨rfl,rfl⟩,hr⟩
 rw [itS_key hk]
 simp only
 rw [hv,if_pos hN,hd]
 unfold cut
 congr 2
 ·simp
 ·funext k
  unfold upd
  by_cases e : k = ino
  ·subst e
   rw [if_pos rfl]
   simp only [ha]
   rw [if_pos (.inr trivial)]
   congr 1
   congr 1
   ·refine (List.filter_eq_nil_iff.2 fun p _=>?_).symm
    simp [hp]
   ·funext s
    simp [hx]
  ·rw [if_neg e]
   cases hb : fs.N k with
   | none=>simp only [hb]
   | some b=>simp only [hb]; simp [e]
 ·simp
open Classical in
theorem cut_xa {fs : FS} (hC : Canon fs) {P : KK → Prop} {ino : Int} {a : NodeA} (ha : fs.N ino = some a) (hn : P (.nd ino)) {s v : ByteArray} (hs : a.at_ s = some v) : itS (cut fs P) (kkText (.xa ino s)) v = some (cut fs (fun k=>P k ∨ k = .xa ino s)):=by
 obtain ⟨hk,hb,hz⟩:=hC.attr ino a ha s v hs
 rw [itS_key hk]
 have hN : (cut fs P).N ino = some ⟨a.nd,a.ps.filter (fun p=>decide (P (.pc ino p.1))),fun s=>if P (.xa ino s) then a.at_ s else none⟩:=by
  unfold cut
  simp only [ha]
  rw [if_pos hn]
 simp only [hN]
 rw [if_pos ⟨hb,hz⟩]
 unfold cut
 congr 2
 ·simp
 ·funext k
  unfold upd
  by_cases e : k = ino
  ·subst e
   rw [if_pos rfl]
   simp only [ha]
   rw [if_pos (.inl hn)]
   congr 1
   congr 1
   ·simp
   ·funext x
    unfold updK
    by_cases e : x = s
    ·rw [if_pos e,if_pos (.inr (by rw [e])),e,hs]
    ·rw [if_neg e]
     simp [e]
  ·rw [if_neg e]
   cases hb : fs.N k with
   | none=>simp only [hb]
   | some b=>simp only [hb]; simp [e]
 ·simp
open Classical in
theorem filter_or {p : Int × ByteArray} {Q : Int → Prop} : ∀ {ps : List (Int × ByteArray)},Rises ps → p ∈ ps → (∀ x ∈ ps,x.1 < p.1 → Q x.1) → (∀ x ∈ ps,p.1 ≤ x.1 → ¬ Q x.1) → ps.filter (fun x=>decide (Q x.1 ∨ x.1 = p.1)) = ps.filter (fun x=>decide (Q x.1)) ++ [p]
 | [],_,hp,_,_=>by cases hp
 | y :: t,hr,hp,h1,h2=>by
  rcases List.mem_cons.1 hp with rfl | hp
  ·have hq:=h2 p (by simp) (by omega)
   have ht : ∀ x ∈ t,p.1 < x.1:=hr.head
   have e1 : t.filter (fun x=>decide (Q x.1 ∨ x.1 = p.1)) = []:=List.filter_eq_nil_iff.2 fun x hx=>by
    have:=ht x hx
    have:=h2 x (by simp [hx]) (by omega)
    simp [this]; omega
   have e2 : t.filter (fun x=>decide (Q x.1)) = []:=List.filter_eq_nil_iff.2 fun x hx=>by
    have:=ht x hx
    have:=h2 x (by simp [hx]) (by omega)
    simp [this]
   rw [List.filter_cons,List.filter_cons,e1,e2]
   simp [hq]
  ·have hlt:=hr.head p hp
   have hq:=h1 y (by simp) hlt
   have ih:=filter_or (Q:=Q) hr.tail hp (fun x hx=>h1 x (by simp [hx])) (fun x hx=>h2 x (by simp [hx]))
   rw [List.filter_cons,List.filter_cons,ih,if_pos (by simp [hq]),if_pos (by simp [hq])]
   rfl
open Classical in
theorem cut_pc {fs : FS} (hC : Canon fs) {P : KK → Prop} {ino : Int} {a : NodeA} (ha : fs.N ino = some a) (hn : P (.nd ino)) {p : Int × ByteArray} (hp : p ∈ a.ps) (h1 : ∀ x ∈ a.ps,x.1 < p.1 → P (.pc ino x.1)) (h2 : ∀ x ∈ a.ps,p.1 ≤ x.1 → ¬ P (.pc ino x.1)) : itS (cut fs P) (kkText (.pc ino p.1)) p.2 = some (cut fs (fun k=>P k ∨ k = .pc ino p.1)):=by
 obtain ⟨hr,hk⟩:=hC.piece ino a ha
 rw [itS_key (hk p hp)]
 have hN : (cut fs P).N ino = some ⟨a.nd,a.ps.filter (fun p=>decide (P (.pc ino p.1))),fun s=>if P (.xa ino s) then a.at_ s else none⟩:=by
  unfold cut
  simp only [ha]
  rw [if_pos hn]
 simp only [hN]
 have hf:=filter_or (Q:=fun ix=>P (.pc ino ix)) hr hp h1 h2
 unfold cut
 congr 2
 ·simp
 ·funext k
  unfold upd
  by_cases e : k = ino
  ·subst e
   rw [if_pos rfl]
   simp only [ha]
   rw [if_pos (.inl hn)]
   congr 1
   congr 1
   ·rw [← hf]
    simp
   ·simp
  ·rw [if_neg e]
   cases hb : fs.N k with
   | none=>simp only [hb]
   | some b=>simp only [hb]; simp [e]
 ·simp
end Go.Proofs.YtpboohfofodeeaaGreatDoor
/- Files, plainly: items that were told are taken again, and are the files that told them (conditions: none). -/
namespace Go.Proofs.YtpboohfofodeeaaGreatDoor
open Go.RowKit Go.Maps
theorem btLt_asymm {a b : ByteArray} (h : btLt a b) (k : btLt b a) : False:=btLt_irrefl a (btLt_trans h k)
theorem kk_nd_pc {i j ix : Int} (h1 : (KK.nd i).ok) (h2 : (KK.pc j ix).ok) : btLt (kkText (.nd i)) (kkText (.pc j ix)):=by
 have e1 : kkText (.nd i) = numS 105 i ++ ⟨#[]⟩:=by
  show textS_ 105 i ⟨#[]⟩ 0 = _
  rw [textS_ok h1,app_nil]; rfl
 have e2 : kkText (.pc j ix) = numS 112 j ++ fix8 (IntKind.u64.wrap ix):=by
  show textS_ 112 j ⟨#[]⟩ ix = _
  rw [textS_ok h2]; rfl
 rw [e1,e2]
 exact btLt_first _ _ (by decide) (by decide) (by decide)
theorem kk_nd_xa {i j : Int} {s : ByteArray} (h1 : (KK.nd i).ok) (h2 : (KK.xa j s).ok) : btLt (kkText (.nd i)) (kkText (.xa j s)):=by
 have e1 : kkText (.nd i) = numS 105 i ++ ⟨#[]⟩:=by
  show textS_ 105 i ⟨#[]⟩ 0 = _
  rw [textS_ok h1,app_nil]; rfl
 have e2 : kkText (.xa j s) = numS 120 j ++ s:=by
  show textS_ 120 j s 0 = _
  rw [textS_ok h2]; rfl
 rw [e1,e2]
 exact btLt_first _ _ (by decide) (by decide) (by decide)
theorem kk_pc_pc {i a b : Int} (h1 : (KK.pc i a).ok) (h2 : (KK.pc i b).ok) (h : a < b) : btLt (kkText (.pc i a)) (kkText (.pc i b)):=by
 have r1 : keyRight 112 i ⟨#[]⟩ a:=h1
 have r2 : keyRight 112 i ⟨#[]⟩ b:=h2
 have b1 : 0 ≤ a ∧ a < 72057594037927936:=by unfold keyRight at r1; omega
 have b2 : 0 ≤ b ∧ b < 72057594037927936:=by unfold keyRight at r2; omega
 have e1 : kkText (.pc i a) = numS 112 i ++ fix8 a:=by
  show textS_ 112 i ⟨#[]⟩ a = _
  rw [textS_ok r1,keyText_p i _ a b1.1 b1.2]
 have e2 : kkText (.pc i b) = numS 112 i ++ fix8 b:=by
  show textS_ 112 i ⟨#[]⟩ b = _
  rw [textS_ok r2,keyText_p i _ b b2.1 b2.2]
 rw [e1,e2]
 exact btLt_app (btLt_fix8 h b1.1 (by omega))
/-- One item more. -/
theorem cut_step {fs : FS} (hC : Canon fs) {P : KK → Prop} {q : KK × ByteArray} (hq : HasIt fs q) (hP : ∀ k,P k → ∃ v,HasIt fs (k,v)) (hb : ∀ r,HasIt fs r → (P r.1 ↔ btLt (kkText r.1) (kkText q.1))) : itS (cut fs P) (kkText q.1) q.2 = some (cut fs (fun k=>P k ∨ k = q.1)):=by
 have hk:=hC.key hq
 obtain ⟨k,v⟩:=q
 cases k with
 | nxt=>
  have : v = numV fs.next:=hq
  rw [this]
  exact cut_nxt hC
 | nm s=>
  obtain ⟨i,hi,rfl⟩:=hq
  exact cut_nm hC hi
 | nd ino=>
  obtain ⟨a,ha,rfl⟩:=hq
  refine cut_nd hC ha (fun ix hx=>?_) (fun s hx=>?_)
  ·obtain ⟨v,hv⟩:=hP _ hx
   exact btLt_asymm ((hb _ hv).1 hx) (kk_nd_pc hk (hC.key hv))
  ·obtain ⟨v,hv⟩:=hP _ hx
   exact btLt_asymm ((hb _ hv).1 hx) (kk_nd_xa hk (hC.key hv))
 | pc ino ix=>
  obtain ⟨a,ha,hp⟩:=hq
  have hnd : HasIt fs (.nd ino,encV a.nd):=⟨a,ha,rfl⟩
  refine cut_pc hC ha ((hb _ hnd).2 (kk_nd_pc (hC.key hnd) hk)) (p:=(ix,v)) hp (fun x hx hl=>?_) (fun x hx hl hpx=>?_)
  ·have hi : HasIt fs (.pc ino x.1,x.2):=⟨a,ha,hx⟩
   exact (hb _ hi).2 (kk_pc_pc (hC.key hi) hk hl)
  ·have hi : HasIt fs (.pc ino x.1,x.2):=⟨a,ha,hx⟩
   have h1:=(hb _ hi).1 hpx
   rcases Int.lt_or_eq_of_le hl with h | h
   ·exact btLt_asymm h1 (kk_pc_pc hk (hC.key hi) h)
   ·have h : ix = x.1:=h
    simp only [h] at h1
    exact btLt_irrefl _ h1
 | xa ino s=>
  obtain ⟨a,ha,hs⟩:=hq
  have hnd : HasIt fs (.nd ino,encV a.nd):=⟨a,ha,rfl⟩
  exact cut_xa hC ha ((hb _ hnd).2 (kk_nd_xa (hC.key hnd) hk)) hs
theorem take_cut {fs : FS} (hC : Canon fs) : ∀ (t : List (ByteArray × ByteArray)) (P : KK → Prop) (prev : Option ByteArray),t.Pairwise (fun a b=>btLt a.1 b.1) → (∀ x ∈ t,∃ q,HasIt fs q ∧ itx q = x) → (∀ k,P k → ∃ v,HasIt fs (k,v)) → (∀ q,HasIt fs q → (P q.1 ↔ itx q ∉ t)) → (∀ q,HasIt fs q → P q.1 → ∀ x ∈ t,btLt (kkText q.1) x.1) → (∀ p,prev = some p → ∀ x ∈ t,btLt p x.1) → takeL (cut fs P) prev t = some fs
 | [],P,prev,_,_,_,h2,_,_=>by
  rw [takeL,cut_all (fun q hq=>(h2 q hq).2 (by simp))]
 | x :: t,P,prev,hs,hx,hP,h2,h3,h4=>by
  obtain ⟨q,hq,rfl⟩:=hx x (by simp)
  obtain ⟨hs1,hs2⟩:=List.pairwise_cons.1 hs
  have hb : ∀ r,HasIt fs r → (P r.1 ↔ btLt (kkText r.1) (kkText q.1)):=fun r hr=>⟨fun hp=>h3 r hr hp (itx q) (by simp),fun hl=>(h2 r hr).2 fun hm=>by
   rcases List.mem_cons.1 hm with e | hm
   ·have : kkText r.1 = kkText q.1:=congrArg (·.1) e
    rw [this] at hl
    exact btLt_irrefl _ hl
   ·exact btLt_asymm hl (hs1 _ hm)⟩
  have hst:=cut_step hC hq hP hb
  rw [takeL_cons_some (fun ⟨p,hp,hn⟩=>hn (h4 p hp (itx q) (by simp))) hst]
  refine take_cut hC t _ _ hs2 (fun y hy=>hx y (by simp [hy])) (fun k hk=>?_) (fun r hr=>?_) (fun r hr hp y hy=>?_) (fun p hp y hy=>?_)
  ·rcases hk with hk | rfl
   ·exact hP k hk
   ·exact ⟨q.2,hq⟩
  ·constructor
   ·rintro (hp | e) hm
    ·exact (h2 r hr).1 hp (by simp [hm])
    ·have:=hs1 _ hm
     have e' : (itx r).1 = (itx q).1:=by show kkText r.1 = kkText q.1; rw [e]
     rw [e'] at this
     exact btLt_irrefl _ this
   ·intro hm
    by_cases e : r.1 = q.1
    ·exact .inr e
    ·refine .inl ((h2 r hr).2 fun hm'=>?_)
     rcases List.mem_cons.1 hm' with e' | hm'
     ·exact e (kk_inj (hC.key hr) (hC.key hq) (congrArg (·.1) e'))
     ·exact hm hm'
  ·rcases hp with hp | e
   ·exact h3 r hr hp y (by simp [hy])
   ·rw [e]; exact hs1 y hy
  ·cases hp
   exact hs1 y hy
/-- **Items that were told are taken again, and are the files that told them.** -/
theorem take_items {fs : FS} (hC : Canon fs) {L : List (ByteArray × ByteArray)} (hL : ItemsOf fs L) : takeL fs0 none L = some fs:=by
 have hmem:=hL.mem
 obtain ⟨R,h1,h2,h3,h4⟩:=hL
 have hne : (R.map itx).Pairwise (fun a b=>a.1 ≠ b.1):=by
  rw [List.pairwise_map]
  refine (List.nodup_iff_pairwise_ne.1 h1).imp_of_mem fun {x y} hx hy hne e=>hne ?_
  have hx:=(h2 x).1 hx
  have hy:=(h2 y).1 hy
  have ek : x.1 = y.1:=kk_inj (hC.key hx) (hC.key hy) e
  obtain ⟨a,b⟩:=x
  obtain ⟨c,d⟩:=y
  simp only at ek
  subst ek
  rw [hasIt_det (fun k a e=>(hC.piece k a e).1) hx hy]
 have hs : L.Pairwise (fun a b=>btLt a.1 b.1):=by
  have h5 : L.Pairwise (fun a b=>a.1 ≠ b.1):=(h3.pairwise_iff (fun h e=>h e.symm)).2 hne
  refine (h4.and h5).imp fun {a b} h=>?_
  rcases btLt_tri a.1 b.1 with h' | h' | h'
  ·exact h'
  ·exact absurd h' h.2
  ·exact absurd h' h.1
 rw [← cut_none fs]
 refine take_cut hC L _ none hs (fun x hx=>(hmem x).1 hx) (fun k hk=>hk.elim) (fun q hq=>⟨fun h=>h.elim,fun h=>h ((hmem _).2 ⟨q,hq,rfl⟩)⟩) (fun q _ h=>h.elim) (fun p hp=>by cases hp)
end Go.Proofs.YtpboohfofodeeaaGreatDoor
