/- Words for worlds on the way: what a call may have written ('Keep'), blocks known whole, maps keyed by int (conditions: none). -/
import Derived.WalkKit
import Derived.WalkLawsBesides
import Derived.WalkSpells
import Derived.Maps.OwnSet
import Derived.Maps.StringElems
import Derived.Maps.RangeWalk
import Derived.BigQuiet
import Derived.Deep.QuietTactic
import Derived.Handy
import Derived.Deep.Draws
import Derived.OwnWalk
import Derived.Maps.AppendAt
import Derived.Lib.Hide
import Derived.Deep.AppendLies
import Derived.Deep.DeepMust
import Derived.Test.YtpboohfofodeeaaGreatDoorRows
import Derived.IntWalk
import Derived.Laws.BytesArg
import Derived.Outline
import Derived.Laws.BitsAllLaws
namespace Go.Proofs.YtpboohfofodeeaaGreatDoor
open Go.RowKit Go.Maps Go.WideShapes

/-- Of what was there nothing has turned but the blocks of S. -/
structure Keep (S : Nat → Prop) (w w' : World) : Prop where
 os : w'.os = w.os
 tape : w'.tape = w.tape
 output : w'.output = w.output
 size : w.heap.size ≤ w'.heap.size
 block : ∀ k,k < w.heap.size → ¬ S k → w'.heap[k]? = w.heap[k]?

theorem Keep.refl (S : Nat → Prop) (w : World) : Keep S w w:=⟨rfl,rfl,rfl,Nat.le_refl _,fun _ _ _=>rfl⟩
theorem Keep.trans {S T : Nat → Prop} {a b c : World} (h : Keep S a b) (k : Keep T b c) (hT : ∀ i,i < a.heap.size → T i → S i) : Keep S a c:=
 ⟨k.os.trans h.os,k.tape.trans h.tape,k.output.trans h.output,Nat.le_trans h.size k.size,fun i hi hn=>(k.block i (Nat.lt_of_lt_of_le hi h.size) (fun ht=>hn (hT i hi ht))).trans (h.block i hi hn)⟩
theorem Keep.mono {S T : Nat → Prop} {a b : World} (h : Keep S a b) (hT : ∀ i,i < a.heap.size → S i → T i) : Keep T a b:=
 ⟨h.os,h.tape,h.output,h.size,fun i hi hn=>h.block i hi (fun hs=>hn (hT i hi hs))⟩
theorem Keep.alloc {S : Nat → Prop} {a b : World} (h : Keep S a b) (o : Obj) : Keep S a (b.alloc o):=
 ⟨h.os,h.tape,h.output,Nat.le_trans h.size (by simp),fun i hi hn=>(Below.heap_alloc b o i (Nat.lt_of_lt_of_le hi h.size)).trans (h.block i hi hn)⟩
theorem Keep.drew {S : Nat → Prop} {a b : World} (h : Keep S a b) : Keep S a b.drew:=⟨h.os,h.tape,h.output,h.size,h.block⟩
theorem Keep.drewN {S : Nat → Prop} {a b : World} (h : Keep S a b) (n : Nat) : Keep S a (b.drewN n):=⟨h.os,h.tape,h.output,h.size,h.block⟩
theorem Keep.setCell {S : Nat → Prop} {a b : World} (h : Keep S a b) {p : Addr} (hp : S p.block ∨ a.heap.size ≤ p.block) (u : Value) : Keep S a (b.setCell p u):=
 ⟨h.os,h.tape,h.output,by simpa [World.setCell] using h.size,fun i hi hn=>(Below.heap_setCell b p u i (by
  rintro rfl
  rcases hp with hp | hp
  ·exact hn hp
  ·omega)).trans (h.block i hi hn)⟩
theorem Keep.grown {S : Nat → Prop} {a b c : World} (h : Keep S a b) {row : Option Nat} (g : b.grownBy c row) (hr : ∀ k,row = some k → S k ∨ a.heap.size ≤ k) : Keep S a c:=
 ⟨g.os.trans h.os,g.tape.trans h.tape,g.output.trans h.output,Nat.le_trans h.size g.size,fun i hi hn=>(g.block i (Nat.lt_of_lt_of_le hi h.size) (fun e=>by
  rcases hr i e.symm with hs | hs
  ·exact hn hs
  ·omega)).trans (h.block i hi hn)⟩
theorem Keep.of_grown {a b : World} {row : Option Nat} (g : a.grownBy b row) (S : Nat → Prop) (hr : ∀ k,row = some k → S k ∨ a.heap.size ≤ k) : Keep S a b:=(Keep.refl S a).grown g hr
theorem Keep.of_below {a b : World} (h : Below a.heap.size a b) (S : Nat → Prop) : Keep S a b:=⟨h.os,h.tape,h.output,h.size,fun i hi _=>h.block i hi⟩
theorem Keep.below {S : Nat → Prop} {a b c : World} (h : Keep S a b) (k : Below b.heap.size b c) : Keep S a c:=
 h.trans (Keep.of_below k S) (fun _ _ hs=>hs)
theorem Keep.to_below {S : Nat → Prop} {a b : World} (h : Keep S a b) {B : Nat} (hB : B ≤ a.heap.size) (hS : ∀ i,S i → B ≤ i) : Below B a b:=
 ⟨h.os,h.tape,h.output,h.size,fun i hi=>h.block i (Nat.lt_of_lt_of_le hi hB) (fun hs=>by have:=hS i hs; omega)⟩
theorem Keep.heap {S : Nat → Prop} {a b : World} (h : Keep S a b) {g : Nat} {o : Obj} (hb : a.heap[g]? = some o) (hn : ¬ S g) : b.heap[g]? = some o:=
 (h.block g (Array.getElem?_eq_some_iff.1 hb).1 hn).trans hb
theorem Keep.cell {S : Nat → Prop} {a b : World} (h : Keep S a b) {p : Addr} {v : Value} (hc : a.cell? p = some v) (hn : ¬ S p.block) : b.cell? p = some v:=
 (World.cell?_of_block (h.block p.block (World.block_lt_of_cell? a p hc) hn)).trans hc

theorem lt_of_heap {w : World} {g : Nat} {o : Obj} (h : w.heap[g]? = some o) : g < w.heap.size:=(Array.getElem?_eq_some_iff.1 h).1

/-- Block g is just the cells cs, of element type t, none frozen. -/
def Blk (w : World) (g : Nat) (t : TypeId) (cs : Array Value) : Prop:=w.heap[g]? = some (.cells cs t (0,0))
section
variable {w w' : World} {g : Nat} {t : TypeId} {cs : Array Value}
theorem Blk.lt (h : Blk w g t cs) : g < w.heap.size:=lt_of_heap h
theorem Blk.cell (h : Blk w g t cs) (i : Nat) : w.cell? ⟨g,i,none⟩ = cs[i]?:=cell_of_row w g i cs t (0,0) h
theorem Blk.frozen (h : Blk w g t cs) (i : Nat) : w.frozen? ⟨g,i,none⟩ = false:=by
 unfold Blk at h
 simp [World.frozen?,h]
theorem Blk.new (w : World) (t : TypeId) (cs : Array Value) : Blk (w.alloc (.cells cs t)) w.heap.size t cs:=heap_alloc_new w _
theorem Blk.drew (h : Blk w g t cs) : Blk w.drew g t cs:=h
theorem Blk.drewN (h : Blk w g t cs) (n : Nat) : Blk (w.drewN n) g t cs:=h
theorem Blk.alloc (h : Blk w g t cs) (o : Obj) : Blk (w.alloc o) g t cs:=(Below.heap_alloc w o g h.lt).trans h
theorem Blk.set_ (h : Blk w g t cs) (i : Nat) (u : Value) : Blk (w.setCell ⟨g,i,none⟩ u) g t (cs.setIfInBounds i u):=by
 unfold Blk at h ⊢
 simp [World.setCell,Array.getElem?_modify,h]
theorem Blk.far (h : Blk w g t cs) {p : Addr} (hp : g ≠ p.block) (u : Value) : Blk (w.setCell p u) g t cs:=(Below.heap_setCell w p u g hp).trans h
theorem Blk.keep {S : Nat → Prop} (h : Blk w g t cs) (hk : Keep S w w') (hn : ¬ S g) : Blk w' g t cs:=hk.heap h hn
theorem Blk.ne_ {g' : Nat} {t' : TypeId} {cs' : Array Value} (h : Blk w g t cs) (h' : Blk w g' t' cs') (hne : t ≠ t') : g ≠ g':=by
 rintro rfl
 unfold Blk at h h'
 rw [h] at h'
 injection h' with h'
 injection h' with _ ht
 exact hne ht
end
theorem own_blk_ne {w : World} {g : Nat} {t : TypeId} {cs : Array Value} {base : Nat} {e : TypeId} {size n : Nat} {v : Value} {xs : List Value} (h : w.ownsRow base e size v n xs) (hg : Blk w g t cs) (hne : e ≠ t) : v.ownBlock ≠ some g:=by
 rcases h.2 with ⟨rfl,_⟩ | ⟨g',cap,cur,rfl,_,hh,_⟩
 ·simp [Value.ownBlock]
 ·intro he
  have : g' = g:=by simpa [Value.ownBlock] using he
  subst this
  exact Blk.ne_ (t:=e) hh hg hne rfl
theorem own_keep {w w' : World} {S : Nat → Prop} {base : Nat} {e : TypeId} {size n : Nat} {v : Value} {xs : List Value} (h : w.ownsRow base e size v n xs) (hk : Keep S w w') (hn : ∀ k,v.ownBlock = some k → ¬ S k) : w'.ownsRow base e size v n xs:=by
 refine ⟨h.1,?_⟩
 rcases h.2 with hn' | ⟨g,cap,cur,rfl,hb,hgg,rest⟩
 ·exact .inl hn'
 ·exact .inr ⟨g,cap,cur,rfl,hb,hk.heap hgg (hn g rfl),rest⟩
theorem own_base {w : World} {base base' : Nat} {e : TypeId} {size n : Nat} {v : Value} {xs : List Value} (h : w.ownsRow base e size v n xs) (hb : ∀ k,v.ownBlock = some k → base' ≤ k) : w.ownsRow base' e size v n xs:=by
 refine ⟨h.1,?_⟩
 rcases h.2 with hn' | ⟨g,cap,cur,rfl,_,rest⟩
 ·exact .inl hn'
 ·exact .inr ⟨g,cap,cur,rfl,hb g rfl,rest⟩

theorem own_slice {w : World} {base n : Nat} {e : TypeId} {size : Nat} {v : Value} {xs : List Value} (h : w.ownsRow base e size v n xs) : ∃ A c,v = .slice A n c:=by
 rcases h.2 with ⟨rfl,rfl⟩ | ⟨g,cap,cur,rfl,_⟩
 ·exact ⟨none,0,rfl⟩
 ·exact ⟨_,cap,rfl⟩

/-! ### maps keyed by int: 'MapI P kt w b f n': block b is a map of n entries, f says which -/
def Rv : Value → Option (DataW Value × List MemPlace):=fun v=>some (.held v,[])
def valAt (D : DataW Value) (k : Int) : Option Value:=if Maps.has D (.int .i64 k) = true then (match D.atKey (.int .i64 k) .nil with | .held v=>some v | _=>none) else none
def upd {α : Type} (f : Int → Option α) (k : Int) (v : α) : Int → Option α:=fun x=>if x = k then some v else f x
def rem {α : Type} (f : Int → Option α) (k : Int) : Int → Option α:=fun x=>if x = k then none else f x
def MapI (P : Program) (kt : TypeId) (w : World) (b : Nat) (f : Int → Option Value) (n : Nat) : Prop:=
 ∃ D,w.ownsMap P kt Rv b n D ∧ Maps.size D = n ∧ ∀ k,valAt D k = f k

section
variable {P : Program} {kt : TypeId} {w w' : World} {b n : Nat} {f : Int → Option Value}
theorem MapI.made (P : Program) (kt : TypeId) (w : World) : MapI P kt (w.alloc (.map #[] 0)) w.heap.size (fun _=>none) 0:=
 ⟨.map [],World.ownsMap_made w P kt Rv,rfl,fun _=>rfl⟩
theorem MapI.lt (h : MapI P kt w b f n) : b < w.heap.size:=let ⟨_,h,_⟩:=h; h.lt
theorem MapI.keep {S : Nat → Prop} (h : MapI P kt w b f n) (hk : Keep S w w') (hn : ¬ S b) : MapI P kt w' b f n:=by
 obtain ⟨D,⟨es,clock,hb,r⟩,h2⟩:=h
 exact ⟨D,⟨es,clock,hk.heap hb hn,r⟩,h2⟩
theorem MapI.alloc (h : MapI P kt w b f n) (o : Obj) : MapI P kt (w.alloc o) b f n:=h.keep ((Keep.refl (fun _=>False) w).alloc o) (fun h=>h)
theorem MapI.drew (h : MapI P kt w b f n) : MapI P kt w.drew b f n:=h
theorem MapI.drewN (h : MapI P kt w b f n) (m : Nat) : MapI P kt (w.drewN m) b f n:=h
theorem MapI.blk_ne (h : MapI P kt w b f n) {g : Nat} {t : TypeId} {cs : Array Value} (hg : Blk w g t cs) : b ≠ g:=by
 rintro rfl
 obtain ⟨D,⟨es,clock,hb,r⟩,h2⟩:=h
 unfold Blk at hg
 rw [hb] at hg
 cases hg
theorem MapI.own_ne (h : MapI P kt w b f n) {base : Nat} {e : TypeId} {size m : Nat} {v : Value} {xs : List Value} (ho : w.ownsRow base e size v m xs) : v.ownBlock ≠ some b:=by
 rcases ho.2 with ⟨rfl,_⟩ | ⟨g',cap,cur,rfl,_,hh,_⟩
 ·simp [Value.ownBlock]
 ·intro he
  have : g' = b:=by simpa [Value.ownBlock] using he
  subst this
  exact h.blk_ne (t:=e) (cs:=cur) hh rfl
theorem MapI.setCell (h : MapI P kt w b f n) {p : Addr} (hp : b ≠ p.block) (u : Value) : MapI P kt (w.setCell p u) b f n:=
 h.keep ((Keep.refl (fun k=>k = p.block) w).setCell (.inl rfl) u) hp
theorem MapI.congr {f' : Int → Option Value} (h : MapI P kt w b f n) (e : ∀ k,f k = f' k) : MapI P kt w b f' n:=by
 obtain ⟨D,h1,h2,h3⟩:=h
 exact ⟨D,h1,h2,fun k=>(h3 k).trans (e k)⟩

theorem isKeyInt (k : Int) : WideAt.IsKeyLit (.int .i64 k):=trivial

theorem held_of_has {D : DataW Value} (h1 : w.ownsMap P kt Rv b n D) (hk : P.underlying kt = some (.int .i64)) {k : Int} (hh : Maps.has D (.int .i64 k) = true) : ∃ v,∀ z,D.atKey (.int .i64 k) z = .held v:=by
 obtain ⟨es,clock,hb,F,hs,rfl⟩:=h1
 rcases List.any_eq_true.1 hh with ⟨p,hp,hpk⟩
 have hp' : p ∈ es.toList.map (WideElems.rg P kt Rv):=(sorted_perm _).mem_iff.1 hp
 obtain ⟨x,hx,rfl⟩:=List.mem_map.1 hp'
 refine ⟨x.val,fun z=>?_⟩
 rw [(atKey_sorted (es.toList.map (WideElems.rg P kt Rv)) (Maps.fit_rising (int_keyed hk) F) (.int .i64 k) (isKeyInt k)).2 _ hp' (WideAt.sameKey_eq hpk) z]
 obtain ⟨y,hy⟩:=F.reads x hx
 rw [WideElems.rg_of hy]
 obtain ⟨z,hz,hd⟩:=WideElems.rd_val hy
 unfold Rv at hz; cases hz
 exact hd
theorem isSome_valAt {D : DataW Value} (h1 : w.ownsMap P kt Rv b n D) (hk : P.underlying kt = some (.int .i64)) (k : Int) : (valAt D k).isSome = Maps.has D (.int .i64 k):=by
 unfold valAt
 cases hh : Maps.has D (.int .i64 k)
 ·rfl
 ·obtain ⟨v,hv⟩:=held_of_has h1 hk hh
  rw [if_pos rfl,hv]; rfl
theorem own_exact {D : DataW Value} (h : w.ownsMap P kt Rv b n D) : w.ownsMap P kt Rv b (Maps.size D) D:=by
 obtain ⟨es,clock,hb,F,hs,rfl⟩:=h
 exact ⟨es,clock,hb,F,by simp [Maps.size,length_sorted],rfl⟩
theorem MapI.of_own {D : DataW Value} (h : w.ownsMap P kt Rv b n D) (hf : ∀ k,valAt D k = f k) : MapI P kt w b f (Maps.size D):=⟨D,own_exact h,rfl,hf⟩

theorem MapI.look (h : MapI P kt w b f n) (hk : P.underlying kt = some (.int .i64)) {t e : TypeId} (ht : P.underlying t = some (.map kt e)) {z : Value} (hz : (zeroValue e).run P w = .ok z w) (c : Bool) (k : Int) (hw : (Lit.int .i64 k).wf = true) :
 (Instr.lookup t (.map (some b)) (.int .i64 k) c).run P w = .ok (if c then .tuple #[(f k).getD z,.bool (f k).isSome] else (f k).getD z) w:=by
 obtain ⟨D,⟨es,clock,hb,F,hs,rfl⟩,hn,hv⟩:=h
 rcases Maps.fit_look c (int_keyed hk) ht hz hb F (keyOf_int_mk hk hw) with ⟨hrun,_,hat⟩ | ⟨e0,y,_,_,hrun,hRv,hat,_⟩
 ·have e : f k = none:=by rw [← hv k]; unfold valAt; rw [Maps.has_false_of_atKey hat]; rfl
  rw [e]; exact hrun
 ·have e : f k = some e0.val:=by
   rw [← hv k]; unfold valAt; rw [Maps.has_true_of_atKey hat,if_pos rfl,hat]
   unfold Rv at hRv; cases hRv; rfl
  rw [e]; exact hrun

theorem MapI.store (h : MapI P kt w b f n) (hk : P.underlying kt = some (.int .i64)) {t e : TypeId} (ht : P.underlying t = some (.map kt e)) (hn : n < maxLen) (k : Int) (hw : (Lit.int .i64 k).wf = true) (v : Value) :
 ∃ w',(Instr.mapUpdate t (.map (some b)) (.int .i64 k) v).run P w = .ok () w' ∧ MapI P kt w' b (upd f k v) (if (f k).isSome = true then n else n + 1) ∧ Keep (fun i=>i = b) w w' ∧ w'.heap.size = w.heap.size:=by
 obtain ⟨D,h1,h2,h3⟩:=h
 have hT:=h1.tidy (int_keyed hk)
 obtain ⟨w',hrun,⟨es',clock',hb',F',hs',hD'⟩,hm⟩:=h1.store (int_keyed hk) ht hn (keyOf_int_mk hk hw) (val:=v) (d:=.held v) (ps:=[]) rfl
 have hsz:=Maps.size_put (k:=.int .i64 k) hT (.held v)
 have hiff : (f k).isSome = Maps.has D (.int .i64 k):=by rw [← h3 k]; exact isSome_valAt h1 hk k
 refine ⟨w',hrun,⟨D.put (.int .i64 k) (.held v),⟨es',clock',hb',F',?_,hD'⟩,?_,?_⟩,Keep.of_grown hm.grown _ (fun i hi=>.inl (by cases hi; rfl)),?_⟩
 ·have e1 : es'.size = Maps.size (D.put (.int .i64 k) (.held v)):=by rw [hD']; simp [Maps.size,length_sorted]
  rw [e1,hsz,hiff,h2]; exact Nat.le_refl _
 ·rw [hsz,hiff,h2]
 ·intro x
  unfold upd
  by_cases e : x = k
  ·subst e
   rw [if_pos rfl]; unfold valAt
   rw [Maps.has_put_same hT.isMap (isKeyInt x),if_pos rfl,Maps.atKey_put_same hT.isMap (isKeyInt x)]
  ·rw [if_neg e]
   have hne : (Lit.int .i64 x) ≠ .int .i64 k:=fun h=>e (by injection h)
   rw [← h3 x]; unfold valAt
   rw [Maps.has_put_other hne,Maps.atKey_put_other hne]
 ·obtain ⟨_,_,_,_,_,rfl⟩:=hm
  simp [ChangeMaps.setBlock]

theorem MapI.drop (h : MapI P kt w b f n) (hk : P.underlying kt = some (.int .i64)) {t e : TypeId} (ht : P.underlying t = some (.map kt e)) (k : Int) (hw : (Lit.int .i64 k).wf = true) (ty : TypeId) :
 ∃ w',(Builtin.delete_ #[t,kt] ty #[.map (some b),.int .i64 k]).run P w = .ok (.tuple #[]) w' ∧ MapI P kt w' b (rem f k) (if (f k).isSome = true then n - 1 else n) ∧ Keep (fun i=>i = b) w w' ∧ w'.heap.size = w.heap.size:=by
 obtain ⟨D,h1,h2,h3⟩:=h
 have hT:=h1.tidy (int_keyed hk)
 obtain ⟨w',hrun,⟨es',clock',hb',F',hs',hD'⟩,hm⟩:=h1.drop (int_keyed hk) ht (keyOf_int_mk hk hw) ty
 have hsz:=Maps.size_del (k:=.int .i64 k) hT
 have hiff : (f k).isSome = Maps.has D (.int .i64 k):=by rw [← h3 k]; exact isSome_valAt h1 hk k
 have hsz' : Maps.size (D.del (.int .i64 k)) = if (f k).isSome = true then n - 1 else n:=by
  rw [hiff]; rw [h2] at hsz
  cases hh : Maps.has D (.int .i64 k) <;> rw [hh] at hsz <;> simp at hsz ⊢ <;> omega
 refine ⟨w',hrun,⟨D.del (.int .i64 k),⟨es',clock',hb',F',?_,hD'⟩,hsz',?_⟩,Keep.of_grown hm.grown _ (fun i hi=>.inl (by cases hi; rfl)),?_⟩
 ·have e1 : es'.size = Maps.size (D.del (.int .i64 k)):=by rw [hD']; simp [Maps.size,length_sorted]
  rw [e1,hsz']; exact Nat.le_refl _
 ·intro x
  unfold rem
  by_cases e : x = k
  ·subst e
   rw [if_pos rfl]; unfold valAt
   rw [Maps.has_del_same]; rfl
  ·rw [if_neg e]
   have hne : (Lit.int .i64 x) ≠ .int .i64 k:=fun h=>e (by injection h)
   rw [← h3 x]; unfold valAt
   rw [Maps.has_del_other hne,Maps.atKey_del_other hne]
 ·obtain ⟨_,_,_,_,_,rfl⟩:=hm
  simp [ChangeMaps.setBlock]

theorem MapI.len (h : MapI P kt w b f n) {t e : TypeId} (ht : P.underlying t = some (.map kt e)) (ty : TypeId) : (Builtin.len_ #[t] ty #[.map (some b)]).run P w = .ok (.int .i64 n) w:=by
 obtain ⟨D,h1,h2,h3⟩:=h
 rw [← h2]; exact h1.len ht ty

theorem MapI.clear (h : MapI P kt w b f n) {t e : TypeId} (ht : P.underlying t = some (.map kt e)) (ty : TypeId) :
 ∃ w',(Builtin.clear_ #[t] ty #[.map (some b)]).run P w = .ok (.tuple #[]) w' ∧ MapI P kt w' b (fun _=>none) 0 ∧ Keep (fun i=>i = b) w w' ∧ w'.heap.size = w.heap.size:=by
 obtain ⟨D,⟨es,clock,hb,F,hs,rfl⟩,hn,hv⟩:=h
 refine ⟨ChangeMaps.setBlock w b (.map #[] clock),?_,⟨.map [],⟨#[],clock,ChangeMaps.heap_setBlock_same hb _,⟨by simp,MapKept.stamped_empty clock,by simp⟩,Nat.zero_le _,rfl⟩,rfl,fun _=>rfl⟩,?_,by simp [ChangeMaps.setBlock]⟩
 ·simp [Builtin.clear_,run_underlying ht,MapKept.run_getObj_map hb,MapKept.run_setObj_map _ hb,Result.andThen,ChangeMaps.setBlock]
 ·exact ⟨rfl,rfl,rfl,by simp [ChangeMaps.setBlock],fun i _ hi=>ChangeMaps.heap_setBlock_other hb _ hi⟩
end

/-! ### at the operation, for the walk -/
section
variable {P : Program} {kt : TypeId} {b n : Nat} {f : Int → Option Value}
variable (w : World) {ops : Array Oper} {rest : List Oper} {o : Oper} {a : Act} {Q : Exit → Act → World → Prop}
theorem wpList_mapI_store (hg : o.guard = none) (m x v : Operand) (t : TypeId) (hop : o.op = Op.mapUpdate t m x v) (e : TypeId)
 (hk : P.underlying kt = some (.int .i64)) (ht : P.underlying t = some (.map kt e)) (hm : a.eval m = .map (some b)) (h : MapI P kt w b f n) (hn : n < maxLen)
 (k : Int) (hw : (Lit.int .i64 k).wf = true) (val : Value) (hx : a.eval x = .int .i64 k) (hv : a.eval v = val)
 (hK : ∀ w',MapI P kt w' b (upd f k val) (if (f k).isSome = true then n else n + 1) → Keep (fun i=>i = b) w w' → w'.heap.size = w.heap.size → wpList P ops Q rest (a.put o.dst undef) w') :
 wpList P ops Q (o :: rest) a w:=by
 refine wpList_plain hg fun K' hK'=>?_
 obtain ⟨w',hrun,r1,r2,r3⟩:=h.store hk ht hn k hw val
 unfold Oper.wp
 simp [execOp,hop,hm,hx,hv,hrun,Result.andThen]
 exact hK' _ _ (hK w' r1 r2 r3)
theorem wpList_mapI_delete (hg : o.guard = none) (m x : Operand) (t : TypeId) (hop : o.op = Op.call { callee:=Callee.builtin Builtin.delete,args:=#[m,x],argTypes:=#[t,kt] }) (e : TypeId)
 (hk : P.underlying kt = some (.int .i64)) (ht : P.underlying t = some (.map kt e)) (hm : a.eval m = .map (some b)) (h : MapI P kt w b f n)
 (k : Int) (hw : (Lit.int .i64 k).wf = true) (hx : a.eval x = .int .i64 k)
 (hK : ∀ w',MapI P kt w' b (rem f k) (if (f k).isSome = true then n - 1 else n) → Keep (fun i=>i = b) w w' → w'.heap.size = w.heap.size → wpList P ops Q rest (a.put o.dst (.tuple #[])) w') :
 wpList P ops Q (o :: rest) a w:=by
 refine wpList_plain hg fun K' hK'=>?_
 obtain ⟨w',hrun,r1,r2,r3⟩:=h.drop hk ht k hw o.type
 unfold Oper.wp
 simp [execOp,hop,resolve,invoke,builtin,hm,hx,hrun,Result.andThen]
 exact hK' _ _ (hK w' r1 r2 r3)
theorem wpList_mapI_clear (hg : o.guard = none) (m : Operand) (t : TypeId) (hop : o.op = Op.call { callee:=Callee.builtin Builtin.clear,args:=#[m],argTypes:=#[t] }) (e : TypeId)
 (ht : P.underlying t = some (.map kt e)) (hm : a.eval m = .map (some b)) (h : MapI P kt w b f n)
 (hK : ∀ w',MapI P kt w' b (fun _=>none) 0 → Keep (fun i=>i = b) w w' → w'.heap.size = w.heap.size → wpList P ops Q rest (a.put o.dst (.tuple #[])) w') :
 wpList P ops Q (o :: rest) a w:=by
 refine wpList_plain hg fun K' hK'=>?_
 obtain ⟨w',hrun,r1,r2,r3⟩:=h.clear ht o.type
 unfold Oper.wp
 simp [execOp,hop,resolve,invoke,builtin,hm,hrun,Result.andThen]
 exact hK' _ _ (hK w' r1 r2 r3)
end

/-! ### how many entries: by the keys -/
section
variable {P : Program} {kt : TypeId} {w : World} {b n : Nat} {f : Int → Option Value}
theorem MapI.keys (h : MapI P kt w b f n) (hk : P.underlying kt = some (.int .i64)) : ∃ K : List Int,K.Nodup ∧ K.length = n ∧ ∀ k,k ∈ K ↔ (f k).isSome = true:=by
 obtain ⟨D,h1,h2,h3⟩:=h
 obtain ⟨es,hD,hp,_⟩:=h1.entries (int_keyed hk)
 obtain ⟨es0,clock,hb,F,hs,hD0⟩:=h1
 subst hD
 have hes : es = (es0.toList.map (WideElems.rg P kt Rv)).foldr DataW.insert []:=by injection hD0
 have hform : ∀ p ∈ es,∃ k v,p = (Lit.int .i64 k,DataW.held v):=by
  intro p hp'
  rw [hes] at hp'
  obtain ⟨x,hx,rfl⟩:=List.mem_map.1 ((sorted_perm _).mem_iff.1 hp')
  obtain ⟨y,hy⟩:=F.reads x hx
  obtain ⟨k,_,e1,_⟩:=Maps.keyOf_int_inv hk (WideElems.rd_key hy)
  obtain ⟨z,hz,hd⟩:=WideElems.rd_val hy
  unfold Rv at hz; cases hz
  rw [WideElems.rg_of hy]
  exact ⟨k,x.val,Prod.ext e1 hd⟩
 let g : Lit × DataW Value → Int:=fun p=>match p.1 with | .int _ k=>k | _=>0
 refine ⟨es.map g,?_,by rw [List.length_map]; exact h2,fun k=>?_⟩
 ·rw [List.Nodup,List.pairwise_map]
  refine (List.Pairwise.and_mem.1 hp).imp ?_
  rintro x y ⟨hx,hy,hne⟩ e
  obtain ⟨k1,v1,rfl⟩:=hform x hx
  obtain ⟨k2,v2,rfl⟩:=hform y hy
  exact hne (by show Lit.int .i64 k1 = Lit.int .i64 k2; rw [show k1 = k2 from e])
 ·rw [← h3 k]
  have hhas : Maps.has (.map es) (.int .i64 k) = es.any (fun p=>p.1.sameKey (.int .i64 k)):=rfl
  constructor
  ·intro hm
   obtain ⟨p,hp',e⟩:=List.mem_map.1 hm
   obtain ⟨k1,v1,rfl⟩:=hform p hp'
   have e' : k1 = k:=e
   subst e'
   unfold valAt
   have ht : Maps.has (.map es) (.int .i64 k1) = true:=by rw [hhas]; exact List.any_eq_true.2 ⟨_,hp',WideAt.sameKey_self (isKeyInt k1)⟩
   rw [if_pos ht]
   have hf : (es.find? (fun p=>p.1.sameKey (.int .i64 k1))).isSome = true:=List.find?_isSome.2 ⟨_,hp',WideAt.sameKey_self (isKeyInt k1)⟩
   obtain ⟨q,hq⟩:=Option.isSome_iff_exists.1 hf
   obtain ⟨k2,v2,rfl⟩:=hform q (List.mem_of_find?_eq_some hq)
   have hat : (DataW.map es).atKey (.int .i64 k1) .nil = .held v2:=by simp [DataW.atKey,hq]
   rw [hat]; rfl
  ·intro hv
   unfold valAt at hv
   cases hh : Maps.has (.map es) (.int .i64 k)
   ·rw [hh] at hv; cases hv
   ·rw [hhas] at hh
    obtain ⟨p,hp',e⟩:=List.any_eq_true.1 hh
    refine List.mem_map.2 ⟨p,hp',?_⟩
    have:=WideAt.sameKey_eq e
    show (match p.1 with | .int _ k=>k | _=>0) = k
    rw [this]
/-- Keys within [lo, lo + m): how many entries. -/
theorem MapI.count (h : MapI P kt w b f n) (hk : P.underlying kt = some (.int .i64)) (lo : Int) (m : Nat) (hs : ∀ k,(f k).isSome = true → lo ≤ k ∧ k < lo + m) :
 n = ((List.range m).filter fun i : Nat=>(f (lo + (i : Int))).isSome).length:=by
 obtain ⟨K,hd,hl,hm⟩:=h.keys hk
 have hp : K.Perm (((List.range m).filter fun i : Nat=>(f (lo + (i : Int))).isSome).map fun i : Nat=>lo + (i : Int)):=by
  refine (List.perm_ext_iff_of_nodup hd ?_).2 (fun k=>?_)
  ·rw [List.Nodup,List.pairwise_map]
   exact ((List.nodup_range (n:=m)).filter _).imp (fun {x y} hne e=>hne (by omega))
  ·rw [hm k,List.mem_map]
   constructor
   ·intro hk'
    obtain ⟨h0,h1⟩:=hs k hk'
    refine ⟨(k - lo).toNat,List.mem_filter.2 ⟨List.mem_range.2 (by omega),?_⟩,by omega⟩
    have : lo + ((k - lo).toNat : Int) = k:=by omega
    rw [this]; exact hk'
   ·rintro ⟨i,hi,rfl⟩
    exact (List.mem_filter.1 hi).2
 rw [← hl,hp.length_eq,List.length_map]
theorem MapI.le (h : MapI P kt w b f n) (hk : P.underlying kt = some (.int .i64)) (lo : Int) (m : Nat) (hs : ∀ k,(f k).isSome = true → lo ≤ k ∧ k < lo + m) : n ≤ m:=by
 rw [h.count hk lo m hs]
 exact Nat.le_trans (List.length_filter_le _ _) (by simp)
end
end Go.Proofs.YtpboohfofodeeaaGreatDoor
/- package pack's Reader: fails, Err, Left, take, Byte, Fixed (conditions: the reader is one of its package's make). -/
namespace Go.Proofs.YtpboohfofodeeaaGreatDoor
open Go.RowKit Go.Maps

theorem keep_set {r : Nat} {w w1 : World} (h : Keep (fun i=>i = r) w w1) (j : Nat) (v : Value) : Keep (fun i=>i = r) w (w1.setCell ⟨r,j,none⟩ v):=h.setCell (p:=⟨r,j,none⟩) (.inl rfl) v
abbrev Pa (a : Nat) : Value:=.pointer (some ⟨a,0,none⟩)
/-- A reader: its text, its place, its error. -/
def Rd (w : World) (r : Nat) (s : ByteArray) (k : Nat) (e : Int) : Prop:=Blk w r 241 #[.string s,.int .i64 k,.int .i64 e]
section
variable {w : World} {r : Nat} {s : ByteArray} {k : Nat} {e0 : Int}

theorem rd_fails_ok (h : Rd w r s k 0) : Calls Tryz.prog 169 #[Pa r] w fun e w'=>e = .returned (.bool false) ∧ w = w':=by
 have c2 : w.cell? ⟨r,2,none⟩ = some (.int .i64 0):=h.cell 2
 clear h
 go_enter Tryz.func169,Tryz.ntmps169
 go_wp2
 go_ret
 exact ⟨rfl,rfl⟩
theorem rd_fails_no (h : Rd w r s k e0) (he : (e0 != 0) = true) : Calls Tryz.prog 169 #[Pa r] w fun e w'=>e = .returned (.bool true) ∧ w = w':=by
 have c2 : w.cell? ⟨r,2,none⟩ = some (.int .i64 e0):=h.cell 2
 clear h
 go_enter Tryz.func169,Tryz.ntmps169
 go_wp2
 go_ret
 exact ⟨rfl,rfl⟩
theorem rd_err (h : Rd w r s k e0) : Calls Tryz.prog 165 #[Pa r] w fun e w'=>e = .returned (.int .i64 e0) ∧ w = w':=by
 have c2 : w.cell? ⟨r,2,none⟩ = some (.int .i64 e0):=h.cell 2
 clear h
 go_enter Tryz.func165,Tryz.ntmps165
 go_wp2
 go_ret
 exact ⟨rfl,rfl⟩

/-- What a take takes: the text, the place and the error behind it. -/
def takeS (s : ByteArray) (k : Nat) (e : Int) (n : Nat) : ByteArray × Nat × Int:=
 if e ≠ 0 then (⟨#[]⟩,k,e) else if s.size < k + n then (⟨#[]⟩,k,20) else (s.extract k (k + n),k + n,0)
/-- A call of a reader: what it answers, the place and the error behind it. -/
def RdCall (w : World) (r : Nat) (s : ByteArray) (v : Value) (k : Nat) (e : Int) : Ending → World → Prop:=fun f w'=>f = .returned v ∧ Rd w' r s k e ∧ Keep (fun i=>i = r) w w'

theorem rd_take (h : Rd w r s k e0) (n : Nat) (hk : k ≤ s.size) (hs : s.size ≤ 140737488351232) (hn : n ≤ 140737488351232) :
 Calls Tryz.prog 168 #[Pa r,.int .i64 n] w (RdCall w r s (.string (takeS s k e0 n).1) (takeS s k e0 n).2.1 (takeS s k e0 n).2.2):=by
 have H:=Lib.hid h
 unfold takeS
 by_cases he : e0 ≠ 0
 ·rw [if_pos he]
  have he' : (e0 != 0) = true:=by simpa using he
  clear h
  go_enter Tryz.func168,Tryz.ntmps168
  go_wp2_with (go_at_call 169; refine (rd_fails_no H.out he').mono ?_; rintro e w' ⟨rfl,rfl⟩)
  go_ret
  exact ⟨rfl,H.out,Keep.refl _ _⟩
 ·rw [if_neg he]
  have he' : e0 = 0:=by simpa using he
  subst he'
  have c0 : w.cell? ⟨r,0,none⟩ = some (.string s):=h.cell 0
  have c1 : w.cell? ⟨r,1,none⟩ = some (.int .i64 k):=h.cell 1
  have f1:=h.frozen 1
  have f2:=h.frozen 2
  have c2 : w.cell? ⟨r,2,none⟩ = some (.int .i64 0):=h.cell 2
  clear h he
  by_cases hl : s.size < k + n
  ·rw [if_pos hl]
   have hl' : decide ((s.size : Int) - k < n) = true:=by simp; omega
   go_enter Tryz.func168,Tryz.ntmps168
   go_wp2_with (go_at_call 169; refine (rd_fails_ok H.out).mono ?_; rintro e w' ⟨rfl,rfl⟩)
   go_quiet (fail)
   go_wp2
   go_ret
   refine ⟨rfl,?_,?_⟩
   ·have:=(H.out.drewN nq).set_ 2 (.int .i64 20)
    simpa [Rd] using this
   ·exact keep_set ((Keep.refl _ _).drewN _) _ _
  ·rw [if_neg hl]
   have d0 : ∀ m : Nat,((w.drewN m).setCell ⟨r,1,none⟩ (.int .i64 ((k : Int) + n))).cell? ⟨r,0,none⟩ = some (.string s):=fun m=>by
    rw [World.cell?_setCell_other]
    ·exact c0
    ·simp
   have e1 : IntKind.i64.wrap ((k : Int) + n - n) = k:=by
    rw [show (k : Int) + n - n = k from by omega]; exact IntWalk.i64_in _ (by omega)
   go_enter Tryz.func168,Tryz.ntmps168
   go_wp2_with (go_at_call 169; refine (rd_fails_ok H.out).mono ?_; rintro e w' ⟨rfl,rfl⟩)
   go_quiet (fail)
   rename Nat=>n1
   go_wp2
   go_quiet (fail)
   go_wp2
   go_ret
   have hc:=((H.out.drewN n1).set_ 1 (.int .i64 ((k : Int) + n))).drewN nq
   refine ⟨rfl,?_,(keep_set ((Keep.refl _ _).drewN _) _ _).drewN _⟩
   simpa [Rd] using hc
end
end Go.Proofs.YtpboohfofodeeaaGreatDoor
/- package pack: Fixed, Short, Text (conditions: none). -/
namespace Go.Proofs.YtpboohfofodeeaaGreatDoor
open Go.RowKit Go.Maps
/-- A number of 64 bits without a sign. -/
def U64 (n : Int) : Prop:=0 ≤ n ∧ n < 18446744073709551616
/-- The array of eight bytes behind k rounds of Fixed. -/
def fixC (n : Int) (k : Nat) : List Int:=(List.range 8).map fun j=>if 8 - k ≤ j then n / 2 ^ (8 * (7 - j)) % 256 else 0
theorem fixC_len (n : Int) (k : Nat) : (fixC n k).length = 8:=by simp [fixC]
def u8s (l : List Int) : Array Value:=(l.map fun x=>Value.int .u8 x).toArray
theorem u8s_size (l : List Int) : (u8s l).size = l.length:=by simp [u8s]
theorem u8s_at (l : List Int) (j : Nat) (h : j < l.length) : (u8s l)[j]? = some (.int .u8 (l.getD j 0)):=by
 simp [u8s,List.getElem?_eq_getElem h,List.getD_eq_getElem?_getD]
theorem u8s_set (l : List Int) (j : Nat) (v : Int) : (u8s l).setIfInBounds j (.int .u8 v) = u8s (l.set j v):=by
 simp [u8s,List.map_set]

theorem fixC_step (n : Int) (k : Nat) (h : k < 8) : (fixC n k).set (7 - k) (n / 2 ^ (8 * k) % 256) = fixC n (k + 1):=by
 refine List.ext_getElem (by simp [fixC]) fun j h1 h2=>?_
 simp only [fixC,List.length_map,List.length_range] at h2
 rw [List.getElem_set]
 simp only [fixC,List.getElem_map,List.getElem_range]
 by_cases e : 7 - k = j
 ·subst e
  rw [if_pos rfl,if_pos (by omega),show 7 - (7 - k) = k from by omega]
 ·rw [if_neg e]
  by_cases e2 : 8 - k ≤ j
  ·rw [if_pos e2,if_pos (by omega)]
  ·rw [if_neg e2,if_neg (by omega)]
theorem pk_fixed (n : Int) (w : World) (_h1 : U64 n) :
 Calls Tryz.prog 62 #[.int .u64 n] w fun e w'=>e = .returned (.string (strOfNums (fixC n 8))) ∧ Below w.heap.size w w':=by
 have h0 : 0 ≤ n:=_h1.1
 go_enter Tryz.func62,Tryz.ntmps62
 go_wp2
 go_loopw [4,5] (fun _ i wr=>∃ k : Nat,k ≤ 8 ∧ i = .int .i64 k ∧ Below w.heap.size w wr ∧ Blk wr w.heap.size 194 (u8s (fixC n k)))
  (fun _ i _=>8 - (intOf i).toNat)
 case atStart=>exact ⟨0,by omega,rfl,(Below.refl _ _).alloc (Nat.le_refl _) _,Blk.new _ _ _⟩
 case round=>
  obtain ⟨k,hk,rfl,hb,hB⟩:=hrel
  by_cases hlt : k < 8
  ·have hc : wr.cell? ⟨w.heap.size,7 - k,none⟩ = some (.int .u8 ((fixC n k).getD (7 - k) 0)):=(hB.cell _).trans (u8s_at _ _ (by rw [fixC_len]; omega))
   have hf:=hB.frozen (7 - k)
   have e7 : ((7 : Int) - k).toNat = 7 - k:=by omega
   have HB:=Lib.hid hB; clear hB
   go_wp2
   go_roundw
   case rel=>
    refine ⟨k + 1,by omega,by go_num,hb.setCell (Nat.le_refl _) _,?_⟩
    have:=HB.out.set_ (7 - k) (.int .u8 (n / 2 ^ (8 * k) % 256))
    rwa [u8s_set,fixC_step n k hlt] at this
   case measure=>simp [intOf]; omega
  ·obtain rfl : k = 8:=by omega
   have hcv:=run_convert_bytes_arg (P:=Tryz.prog) wr 195 5 Tryz.underlying195 Tryz.underlying5 w.heap.size 0 8 8 (fixC n 8) (fixC_len _ _) (fun i hi=>by rw [Nat.zero_add]; exact (hB.cell _).trans (u8s_at _ _ (by rw [fixC_len]; omega))) 9 Tryz.underlying9
   clear hB
   go_wp2
   go_ret
   exact ⟨rfl,hb⟩

theorem or128 (q : Int) (_h : 0 ≤ q) : bits BinOp.or IntKind.u8 (q % 256) 128 = q % 128 + 128:=by
 rw [u8_or _ _ (by omega) (by omega) (by omega) (by omega)]
 have h1 : (q % 256).toNat < 256:=by omega
 have h2 : ∀ m : Nat,m < 256 → m ||| 128 = m % 128 + 128:=by decide +kernel
 rw [show (128 : Int).toNat = 128 from rfl,h2 _ h1]
 omega
/-- A number's short form, of at most so many bytes and one. -/
def shF : Nat → Int → List Int
 | 0,n=>[n]
 | f + 1,n=>if n < 128 then [n] else (n % 128 + 128) :: shF f (n / 128)
def shL (n : Int) : List Int:=shF 9 n
theorem shF_small (f : Nat) (n : Int) (h : n < 128) : shF f n = [n]:=by cases f <;> simp [shF,h]
theorem shF_more (f : Nat) (n : Int) (h : ¬ n < 128) (hf : 0 < f) : shF f n = (n % 128 + 128) :: shF (f - 1) (n / 128):=by
 obtain ⟨f,rfl⟩ : ∃ m,f = m + 1:=⟨f - 1,by omega⟩
 simp [shF,h]
theorem shF_len (f : Nat) (n : Int) : 1 ≤ (shF f n).length ∧ (shF f n).length ≤ f + 1:=by
 induction f generalizing n with
 | zero=>simp [shF]
 | succ f ih=>
  unfold shF
  split
  ·simp
  ·have:=ih (n / 128); simp; omega
theorem shL_len (n : Int) : 1 ≤ (shL n).length ∧ (shL n).length ≤ 10:=shF_len 9 n
theorem strOfNums_size (l : List Int) : (strOfNums l).size = l.length:=by simp [strOfNums,ByteArray.size]
theorem take_snoc_set (l : List Int) (k : Nat) (v : Int) (h : k < l.length) : (l.set k v).take (k + 1) = l.take k ++ [v]:=by
 rw [List.take_succ_eq_append_getElem (by simpa using h),List.getElem_set_self,List.take_set_of_le (Nat.le_refl _)]
/-- What is known behind k rounds. -/
structure ShAt (n q : Int) (k : Nat) (l : List Int) : Prop where
 len : l.length = 10
 eq : l.take k ++ shF (9 - k) q = shL n
 lt : q < 128 ^ (10 - k)
theorem ShAt.lt9 {n q : Int} {k : Nat} {l : List Int} (h : ShAt n q k l) (hk : k ≤ 9) (h127 : 127 < q) : k ≤ 8:=by
 rcases Nat.lt_or_ge 8 k with h9 | h9
 ·obtain rfl : k = 9:=by omega
  have:=h.lt
  omega
 ·exact h9
theorem ShAt.step {n q : Int} {k : Nat} {l : List Int} (h : ShAt n q k l) (h127 : 127 < q) (hk : k ≤ 8) : ShAt n (q / 128) (k + 1) (l.set k (q % 128 + 128)):=by
 refine ⟨by rw [List.length_set]; exact h.len,?_,?_⟩
 ·rw [take_snoc_set _ _ _ (by rw [h.len]; omega),← h.eq,shF_more (9 - k) q (by omega) (by omega),show 9 - (k + 1) = 9 - k - 1 from by omega]
  simp
 ·have:=h.lt
  rw [show 10 - k = (10 - (k + 1)) + 1 from by omega,Int.pow_succ] at this
  rw [Int.ediv_lt_iff_lt_mul (by omega)]
  exact this
theorem ShAt.last {n q : Int} {k : Nat} {l : List Int} (h : ShAt n q k l) (h127 : ¬ 127 < q) (hk : k ≤ 9) : (l.set k q).take (k + 1) = shL n:=by
 rw [take_snoc_set _ _ _ (by rw [h.len]; omega),← h.eq,shF_small _ _ (by omega)]
theorem sz_u8 (W : World) : (Go.sizeOf 5).run Tryz.prog W = .ok 1 W:=by kernel_rfl
theorem ar10 : Tryz.prog.arrayLen 261 = 10:=by kernel_rfl
theorem el10 : Tryz.prog.elem 261 = 5:=by kernel_rfl
theorem slice10 (W : World) (a : Addr) (k : Nat) (hk : k ≤ 9) : (Instr.sliceAt 261 (.pointer (some a)) none (some (.int .i64 ((k : Int) + 1))) none).run Tryz.prog W = .ok (.slice (some a) (k + 1) 10) W:=by
 rw [run_sliceAt_array_h W 261 a (by kernel_rfl) .i64 _ (by omega) (by rw [ar10]; omega),el10,sz_u8]
 simp only [Result.andThen,slicedAt,ar10]
 rw [show ((k : Int) + 1).toNat = k + 1 from by omega]
 simp [Addr.add]
set_option maxRecDepth 100000 in
theorem pk_short (n : Int) (w : World) (_h1 : U64 n) :
 Calls Tryz.prog 120 #[.int .u64 n] w fun e w'=>e = .returned (.string (strOfNums (shL n))) ∧ Below w.heap.size w w':=by
 have h0 : 0 ≤ n:=_h1.1
 go_enter Tryz.func120,Tryz.ntmps120
 go_wp2
 go_loopw [0,4] (fun m i wr=>∃ k : Nat,∃ q : Int,∃ l : List Int,k ≤ 9 ∧ 0 ≤ q ∧ i = .int .i64 k ∧ m = .int .u64 q ∧ Hid (ShAt n q k l) ∧ Below w.heap.size w wr ∧ Hid (Blk wr w.heap.size 261 (u8s l)))
  (fun _ i _=>10 - (intOf i).toNat)
 case atStart=>exact ⟨0,n,List.replicate 10 0,by omega,h0,rfl,rfl,Lib.hid ⟨by simp,by simp [shL],by have:=_h1.2; omega⟩,(Below.refl _ _).alloc (Nat.le_refl _) _,Lib.hid (Blk.new _ _ _)⟩
 case round=>
  obtain ⟨k,q,l,hk,hq,rfl,rfl,HS,hb,HB⟩:=hrel
  have hc : wr.cell? ⟨w.heap.size,k,none⟩ = some (.int .u8 (l.getD k 0)):=(HB.out.cell _).trans (u8s_at _ _ (by rw [HS.out.len]; omega))
  have hf:=HB.out.frozen k
  by_cases h127 : 127 < q
  ·have hk8 : k ≤ 8:=HS.out.lt9 hk h127
   go_wp2
   go_roundw
   case rel=>
    refine ⟨k + 1,q / 128,l.set k (q % 128 + 128),by omega,by omega,by go_num,rfl,Lib.hid (HS.out.step h127 hk8),hb.setCell (Nat.le_refl _) _,?_⟩
    have:=HB.out.set_ k (.int .u8 (q % 128 + 128))
    rw [u8s_set] at this
    rw [or128 q hq]
    exact Lib.hid this
   case measure=>simp [intOf]; omega
  ·have hsl:=fun W=>slice10 W ⟨w.heap.size,0,none⟩ k hk
   have hB2:=HB.out.set_ k (.int .u8 q)
   rw [u8s_set] at hB2
   have hcv:=run_convert_bytes_arg (P:=Tryz.prog) (wr.setCell ⟨w.heap.size,k,none⟩ (.int .u8 q)) 195 5 Tryz.underlying195 Tryz.underlying5 w.heap.size 0 (k + 1) 10 (shL n) (by rw [← HS.out.last h127 hk]; simp [HS.out.len]; omega) (fun i hi=>by
    rw [Nat.zero_add,← HS.out.last h127 hk,List.getD_eq_getElem?_getD,List.getElem?_take,if_pos hi,← List.getD_eq_getElem?_getD]
    exact (hB2.cell _).trans (u8s_at _ _ (by rw [List.length_set,HS.out.len]; omega))) 9 Tryz.underlying9
   clear hB2
   go_wp2

   go_ret
   exact ⟨rfl,hb.setCell (Nat.le_refl _) _⟩

theorem pk_text (s : ByteArray) (w : World) (hs : s.size ≤ 140737488351232) :
 Calls Tryz.prog 121 #[.string s] w fun e w'=>e = .returned (.string (strOfNums (shL s.size) ++ s)) ∧ Below w.heap.size w w':=by
 have hl : (strOfNums (shL s.size)).size ≤ 10:=by rw [strOfNums_size]; exact (shL_len _).2
 go_enter Tryz.func121,Tryz.ntmps121
 go_wp2_with (go_at_call 120; refine (pk_short _ _ ⟨by omega,by omega⟩).mono ?_; rintro e w' ⟨rfl,hb⟩)
 go_ret
 exact ⟨rfl,hb⟩
end Go.Proofs.YtpboohfofodeeaaGreatDoor
/- package pack's Reader: Left, End, Byte, Fixed, Short, Text, Read (conditions: the reader is one of its package's make). -/
namespace Go.Proofs.YtpboohfofodeeaaGreatDoor
open Go.RowKit Go.Maps

/-- A byte of a text, as a number. -/
def bt (s : ByteArray) (k : Nat) : Int:=if h : k < s.size then ((s[k]'h).toNat : Int) else 0
theorem bt_at (s : ByteArray) (k : Nat) (h : k < s.size) : bt s k = ((s[k]'h).toNat : Int):=by simp [bt,h]
theorem bt_range (s : ByteArray) (k : Nat) : 0 ≤ bt s k ∧ bt s k < 256:=by
 unfold bt
 split
 ·rename_i h
  have:=(s[k]'h).toNat_lt
  omega
 ·omega
theorem ix_string (s : ByteArray) (k : Nat) (h : k < s.size) (W : World) : (Instr.index 9 (.string s) (.int .i64 (k : Int))).run Tryz.prog W = .ok (.int .u8 (bt s k)) W:=by
 rw [run_index_string W 9 s .i64 k Tryz.underlying9,dif_pos ⟨by omega,by omega⟩,bt_at s k h]
 rfl
section
variable {w : World} {r : Nat} {s : ByteArray} {k : Nat} {e0 : Int}

theorem pk_read (s : ByteArray) (w : World) : Calls Tryz.prog 96 #[.string s] w fun e w'=>e = .returned (Pa w.heap.size) ∧ Rd w' w.heap.size s 0 0 ∧ Below w.heap.size w w':=by
 go_enter Tryz.func96,Tryz.ntmps96
 go_wp2
 go_ret
 exact ⟨rfl,Blk.new _ _ _,(Below.refl _ _).alloc (Nat.le_refl _) _⟩

theorem rd_left (h : Rd w r s k e0) (hk : k ≤ s.size) (hs : s.size ≤ 140737488351232) :
 Calls Tryz.prog 164 #[Pa r] w fun e w'=>e = .returned (.int .i64 (if e0 = 0 then ((s.size - k : Nat) : Int) else 0)) ∧ ∃ n,w.drewN n = w':=by
 have H:=Lib.hid h
 by_cases he : e0 = 0
 ·subst he
  rw [if_pos rfl,show ((s.size - k : Nat) : Int) = (s.size : Int) - k from by omega]
  have c0 : w.cell? ⟨r,0,none⟩ = some (.string s):=h.cell 0
  have c1 : w.cell? ⟨r,1,none⟩ = some (.int .i64 k):=h.cell 1
  clear h
  go_enter Tryz.func164,Tryz.ntmps164
  go_wp2_with (go_at_call 169; refine (rd_fails_ok H.out).mono ?_; rintro e w' ⟨rfl,rfl⟩)
  go_quiet (fail)
  go_wp2
  go_ret
  exact ⟨rfl,nq,rfl⟩
 ·have he' : (e0 != 0) = true:=by simpa using he
  rw [if_neg he]
  clear h he
  go_enter Tryz.func164,Tryz.ntmps164
  go_wp2_with (go_at_call 169; refine (rd_fails_no H.out he').mono ?_; rintro e w' ⟨rfl,rfl⟩)
  go_ret
  exact ⟨rfl,0,rfl⟩

theorem rd_fails_okq (h : Rd w r s k 0) : Calls Tryz.prog 169 #[Pa r] w fun e w'=>e = .returned (.bool false) ∧ w' = w:=(rd_fails_ok h).mono fun _ _ ⟨a,b⟩=>⟨a,b.symm⟩
theorem rd_fails_noq (h : Rd w r s k e0) (he : (e0 != 0) = true) : Calls Tryz.prog 169 #[Pa r] w fun e w'=>e = .returned (.bool true) ∧ w' = w:=(rd_fails_no h he).mono fun _ _ ⟨a,b⟩=>⟨a,b.symm⟩
theorem rd_end (h : Rd w r s k e0) (hk : k ≤ s.size) (_hs : s.size ≤ 140737488351232) :
 Calls Tryz.prog 98 #[Pa r] w fun e w'=>e = .returned (.int .i64 (if e0 = 0 then (if k < s.size then 22 else 0) else e0)) ∧ ∃ n,w.drewN n = w':=by
 have H:=Lib.hid h
 have c0 : w.cell? ⟨r,0,none⟩ = some (.string s):=h.cell 0
 have c1 : w.cell? ⟨r,1,none⟩ = some (.int .i64 k):=h.cell 1
 by_cases he : e0 = 0
 ·subst he
  rw [if_pos rfl]
  clear h
  by_cases hl : k < s.size
  ·rw [if_pos hl]
   go_enter Tryz.func98,Tryz.ntmps98
   go_wp2
   go_quiet ((go_at_call 169; exact Calls.quiet_of_same (rd_fails_okq (H.out.drewN _))))
   go_wp2
   go_ret
   exact ⟨rfl,nq,rfl⟩
  ·rw [if_neg hl]
   have hl' : decide ((k : Int) < s.size) = false:=by simp; omega
   go_enter Tryz.func98,Tryz.ntmps98
   go_wp2
   go_quiet ((go_at_call 169; exact Calls.quiet_of_same (rd_fails_okq (H.out.drewN _))))
   go_wp2_with (go_at_call 165; refine (rd_err (H.out.drewN nq)).mono ?_; rintro e w' ⟨rfl,rfl⟩)
   go_ret
   exact ⟨rfl,nq,rfl⟩
 ·have he' : (e0 != 0) = true:=by simpa using he
  rw [if_neg he]
  clear h he
  go_enter Tryz.func98,Tryz.ntmps98
  go_wp2
  go_quiet ((go_at_call 169; exact Calls.quiet_of_same (rd_fails_noq (H.out.drewN _) he')))
  go_wp2_with (go_at_call 165; refine (rd_err (H.out.drewN nq)).mono ?_; rintro e w' ⟨rfl,rfl⟩)
  go_ret
  exact ⟨rfl,nq,rfl⟩

theorem toList_eq (t : ByteArray) : t.toList = t.data.toList:=ByteArray.toList_eq t
theorem toList_ne (t : ByteArray) (h : 0 < t.size) : t.toList.isEmpty = false:=by
 rw [toList_eq,List.isEmpty_eq_false_iff,ne_eq,← List.length_eq_zero_iff]
 simp only [Array.length_toList]
 show ¬ t.size = 0
 omega
/-- What Byte answers. -/
def byteS (s : ByteArray) (k : Nat) (e : Int) : Int × Nat × Int:=if e ≠ 0 then (0,k,e) else if s.size < k + 1 then (0,k,20) else (bt s k,k + 1,0)
theorem extract1 (s : ByteArray) (k : Nat) (h : k < s.size) : (s.extract k (k + 1)).size = 1 ∧ bt (s.extract k (k + 1)) 0 = bt s k:=by
 have h1 : (s.extract k (k + 1)).size = 1:=by rw [ByteArray.size_extract]; omega
 refine ⟨h1,?_⟩
 rw [bt_at _ 0 (by omega),bt_at s k h]
 congr 1
 simp [ByteArray.getElem_extract]
theorem rd_byte (h : Rd w r s k e0) (hk : k ≤ s.size) (hs : s.size ≤ 140737488351232) :
 Calls Tryz.prog 163 #[Pa r] w (RdCall w r s (.int .u8 (byteS s k e0).1) (byteS s k e0).2.1 (byteS s k e0).2.2):=by
 have ht:=rd_take h 1 hk hs (by omega)
 have H:=Lib.hid ht
 clear ht h
 unfold byteS
 unfold takeS at H
 by_cases he : e0 ≠ 0
 ·rw [if_pos he] at H ⊢
  clear he
  go_enter Tryz.func163,Tryz.ntmps163
  go_wp2_with (go_at_call 168; refine H.out.mono ?_; rintro e w' ⟨rfl,hr,hkp⟩)
  go_ret
  exact ⟨rfl,hr,hkp⟩
 ·rw [if_neg he] at H ⊢
  clear he
  by_cases hl : s.size < k + 1
  ·rw [if_pos hl] at H ⊢
   go_enter Tryz.func163,Tryz.ntmps163
   go_wp2_with (go_at_call 168; refine H.out.mono ?_; rintro e w' ⟨rfl,hr,hkp⟩)
   go_ret
   exact ⟨rfl,hr,hkp⟩
  ·rw [if_neg hl] at H ⊢
   obtain ⟨h1,h2⟩:=extract1 s k (by omega)
   generalize s.extract k (k + 1) = t at H h1 h2
   have hne : t.toList.isEmpty = false:=toList_ne t (by omega)
   have hix:=ix_string t 0 (by omega)
   rw [h2] at hix
   simp only [Int.natCast_zero] at hix
   clear h2 h1
   go_enter Tryz.func163,Tryz.ntmps163
   go_wp2_with (go_at_call 168; refine H.out.mono ?_; rintro e w' ⟨rfl,hr,hkp⟩)
   go_ret
   exact ⟨rfl,hr,hkp⟩
end
end Go.Proofs.YtpboohfofodeeaaGreatDoor
