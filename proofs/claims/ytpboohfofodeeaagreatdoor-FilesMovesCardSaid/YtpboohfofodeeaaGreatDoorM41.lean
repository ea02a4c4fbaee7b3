/- law16: arguments opened: slices of operations, one operation; the wrap that keeps the world's shape beside what the row lists (conditions: none). -/
import Derived.Test.YtpboohfofodeeaaGreatDoorM39
import Derived.Deep.Slices
import Derived.Deep.Fields
import Derived.ChangeSame
import Derived.ProofKit
import Derived.OpenShut
import Derived.ShutString
import Derived.Shelf.Vars
namespace Go.Proofs.YtpboohfofodeeaaGreatDoor
open Go.ChangeShapes Go.WideShapes Go.Deep Go.RowKit

section
variable {H : Type} {enc : TypeId × Value → H} {P : Program} {w : World} {base : Nat} {spare : Nat → Bool} {held : Bool}
theorem open_slice_fields {t e : TypeId} {fs : Array Field} {fuel : Nat} {cs : List Value} {x : DataW H × List MemPlace} (ht : P.underlying t = some (.slice e)) (he : P.underlying e = some (.struct fs))
 (hone : oneCellFields P fs = true) (hC : P.cellsOf e = fs.size) (h : DataW.trod enc P w base spare held fuel t cs = some x) :
 (cs = [.slice none 0 0] ∧ x = (.nil,[])) ∨
 ∃ (a : Addr) (len cap m : Nat) (D : Nat → DataW H) (Pl : Nat → List MemPlace),cs = [.slice (some a) len cap] ∧ base ≤ a.block ∧ len ≤ cap ∧ cap ≤ maxLen ∧ m = (if spare a.block then cap else len) ∧
  x = (.slice ((List.range len).map D) ((List.range (m - len)).map fun j=>D (len + j)),MemPlace.row a (m * fs.size) ++ (List.range m).flatMap Pl) ∧
  ∀ i,i < m → ∃ (ys : List (DataW H × List MemPlace)) (n : Nat),D i = .agg (ys.map (·.1)) ∧ Pl i = ys.flatMap (·.2) ∧ ys.length = fs.size ∧
   ∀ (j : Nat) (f : Field),fs[j]? = some f → ∃ (v : Value) (y : DataW H × List MemPlace),w.cell? (a.add (i * fs.size + j)) = some v ∧ ys[j]? = some y ∧ DataW.trod enc P w base spare held n f.type [v] = some y:=by
 rcases open_slice ht h with h0 | ⟨a,len,cap,m,n,D,Pl,hcs,hb,hl,hm,hmm,hx,hi⟩
 ·exact .inl h0
 ·refine .inr ⟨a,len,cap,m,D,Pl,hcs,hb,hl,hm,hmm,by rw [hC] at hx; exact hx,fun i him=>?_⟩
  obtain ⟨cs',hc,ht'⟩:=hi i him
  rw [hC] at hc
  obtain ⟨ys,n',hn',hy,hlen,hyl,hf⟩:=DataW.trod_struct he ht'
  obtain ⟨_,hcl,hat⟩:=World.cells?_some hc
  simp only [Prod.mk.injEq] at hy
  refine ⟨ys,n',hy.1,hy.2,hyl,fun j f hj=>?_⟩
  obtain ⟨ho,hk⟩:=hone_of hone j f hj
  have hjl : j < fs.size:=(Array.getElem?_eq_some_iff.1 hj).1
  have hcell:=hat j hjl
  have hv : cs'[j]? = some (cs'[j]'(by omega)):=List.getElem?_eq_getElem (by omega)
  have h1:=hf j f hj
  rw [ho,hk] at h1
  have hone' : (cs'.drop j).take 1 = [cs'[j]'(by omega)]:=by
   rw [List.drop_eq_getElem_cons (by omega)]
   rfl
  rw [hone'] at h1
  have hys : ys[j]? = some (ys[j]'(by omega)):=List.getElem?_eq_getElem (by omega)
  refine ⟨_,_,?_,hys,h1.trans hys⟩
  rw [← Go.Deep.add_add,hcell,hv]
end

section
variable {H : Type} {enc : TypeId × Value → H} {w : World} {fuel : Nat}
theorem i64R_of_wf {x : Int} (h : (Lit.int .i64 x).wf = true) : i64R x:=by
 simp only [Lit.wf,Bool.and_eq_true,decide_eq_true_eq] at h
 exact h
theorem add_field (q : Addr) (k : Nat) (h : 0 < k) : q.add k = ⟨q.block,q.off + k,none⟩:=by unfold Addr.add; rw [if_neg (by omega)]
/-- A slice of operations that is read. -/
theorem read_ops {v : Value} {x : DataW H × List MemPlace} (h : DataW.trod enc Tryz.prog w 0 (fun _=>true) true fuel 22 [v] = some x) :
 ∃ (A : Option Addr) (n cap : Nat) (l : List OpA),v = .slice A n cap ∧ RdO w A n l:=by
 rcases open_slice_fields Tryz.underlying22 Tryz.underlying24 (by kernel_rfl) (by kernel_rfl) h with ⟨hcs,_⟩ | ⟨a,len,cap,m,D,Pl,hcs,_,hl,hm,hmm,_,hi⟩
 ·exact ⟨none,0,0,[],by simpa using hcs,rfl,by simp,fun h=>by simp at h⟩
 ·have hone : ∀ i,i < len → ∃ c,IsOp w (a.add (i * 7)) c:=by
   intro i hil
   simp only [if_true] at hmm
   obtain ⟨ys,n,_,_,_,hf⟩:=hi i (by omega)
   obtain ⟨v0,y0,g0,_,t0⟩:=hf 0 _ rfl
   obtain ⟨v1,y1,g1,_,t1⟩:=hf 1 _ rfl
   obtain ⟨v2,y2,g2,_,t2⟩:=hf 2 _ rfl
   obtain ⟨v3,y3,g3,_,t3⟩:=hf 3 _ rfl
   obtain ⟨v4,y4,g4,_,t4⟩:=hf 4 _ rfl
   obtain ⟨v5,y5,g5,_,t5⟩:=hf 5 _ rfl
   obtain ⟨v6,y6,g6,_,t6⟩:=hf 6 _ rfl
   obtain ⟨k0,e0,_,r0⟩:=DataW.trod_int Tryz.underlying3 t0
   obtain ⟨s1,e1,_⟩:=DataW.trod_string Tryz.underlying9 t1
   obtain ⟨s2,e2,_⟩:=DataW.trod_string Tryz.underlying9 t2
   obtain ⟨s3,e3,_⟩:=DataW.trod_string Tryz.underlying9 t3
   obtain ⟨k4,e4,_,r4⟩:=DataW.trod_int Tryz.underlying3 t4
   obtain ⟨k5,e5,_,r5⟩:=DataW.trod_int Tryz.underlying3 t5
   obtain ⟨s6,e6,_⟩:=DataW.trod_string Tryz.underlying9 t6
   obtain rfl : v0 = _:=by simpa using e0
   obtain rfl : v1 = _:=by simpa using e1
   obtain rfl : v2 = _:=by simpa using e2
   obtain rfl : v3 = _:=by simpa using e3
   obtain rfl : v4 = _:=by simpa using e4
   obtain rfl : v5 = _:=by simpa using e5
   obtain rfl : v6 = _:=by simpa using e6
   have sz : ∀ j,a.add (i * 7 + j) = (a.add (i * 7)).add j:=fun j=>(Go.Deep.add_add a _ _).symm
   rw [show (Array.size _ : Nat) = 7 from rfl] at g0 g1 g2 g3 g4 g5 g6
   rw [sz] at g0 g1 g2 g3 g4 g5 g6
   rw [add_field _ _ (by omega)] at g1 g2 g3 g4 g5 g6
   exact ⟨⟨k0,s1,s2,s3,k4,k5,s6⟩,⟨g0,g1,g2,g3,g4,g5,g6,⟨i64R_of_wf r4,i64R_of_wf r5⟩⟩⟩
  obtain ⟨f,hf⟩ : ∃ f : Nat → OpA,∀ i,i < len → IsOp w (a.add (i * 7)) (f i):=⟨fun i=>if h : i < len then (hone i h).choose else default,fun i hil=>by
   show IsOp w (a.add (i * 7)) (if h : i < len then (hone i h).choose else default)
   rw [dif_pos hil]; exact (hone i hil).choose_spec⟩
  refine ⟨some a,len,cap,(List.range len).map f,by simpa using hcs,by simp,by unfold maxLen at hm; omega,fun _=>⟨a,rfl,fun i hil=>?_⟩⟩
  have : ((List.range len).map f).getD i default = f i:=by
   rw [List.getD_eq_getElem?_getD,List.getElem?_map,List.getElem?_range hil]; rfl
  rw [this]; exact hf i hil
end
/-- The library's variable holds a number, by the world's shape. -/
theorem libv_of {w : World} (h : w.ShapedOpen Tryz.prog) : LibV w:=cell_of_shapedOpen_int (zero:=#[.int .i64 0]) h (of_decide_eq_true (by kernel_rfl)) (by kernel_rfl) rfl (by kernel_rfl) (by kernel_rfl) Tryz.underlying3
end Go.Proofs.YtpboohfofodeeaaGreatDoor
namespace Go.Proofs.YtpboohfofodeeaaGreatDoor
open Go Go.ChangeShapes Go.WideShapes Go.ChangeAt Go.RowKit
variable {H : Type} {enc : TypeId × Value → H}
theorem returns_listed {a : Assume} {C : Checked} {os : Os} {f : FuncId} {fn : Func} {s : ChangeSpec} {conds : List PathCond} {apart fresh handsOn again : Bool} {X : World → Array Value → Prop}
 (hX : ∀ (w w' : World) (args : Array Value),w.heap = w'.heap → X w args → X w' args)
 (own : ownKnob C.prog.godebug = none) (started : os.Started) (noInit : C.prog.inits.idxOf? f = none) (hfn : C.prog.funcs[f]? = some fn)
 (witness : ∃ (w : World) (tape : Tape) (i : Input),w.os = os ∧ (w.forCall tape i).Shaped C.prog ∧ i.vars = [] ∧ Input.okWide C.prog (w.forCall tape i) .any w.heap.size f i ∧
  ((s.pre enc C.prog fn conds apart (w.forCall tape i).memory i.args ∧ X (w.forCall tape i).memory i.args) ∧ sizedMet enc C.prog fn (OpenSpec.ofChange s) apart (w.forCall tape i).memory i.args) ∧ a.holds C.prog (lone (Frame.enter C.prog f i.args .normal) [] (w.forCall tape i)))
 (contract : ∀ (W : World) (base : Nat) (args : Array Value) (ds gs : List (DataW H)) (before : List MemPlace),
  (∀ (j : Nat) t v,fn.params[j]? = some t → args[j]? = some v → Value.okWide C.prog W .any base t v) →
  DataW.Whole enc C.prog fn.params.toList s.vars apart W args.toList ds gs before →
  conds.all (PathCond.test C.prog ⟨fn.params.toList,ds,s.plain.varTypes C.prog,gs⟩) = true →
  (DataW.weightsEach C.prog (fn.params.toList ++ s.plain.varTypes C.prog) (ds ++ gs)).all (· ≤ reachBytes) = true → X W args → W.ShapedOpen C.prog →
  Calls C.prog f args W fun e W'=>∃ v,e = .returned v ∧ s.post enc C.prog fn apart fresh handsOn again W args v W') :
 ReturnsInHanded a C os f .any (fun w args=>(s.pre enc C.prog fn conds apart w args ∧ X w args) ∧ sizedMet enc C.prog fn (OpenSpec.ofChange s) apart w args) (s.post enc C.prog fn apart fresh handsOn again):=by
 refine returnsInHanded_of_calls own started noInit witness ?_
 intro w tape i _ hsh _ hok hpre _
 obtain ⟨_,_,_,fn',hfn',_,_,_,_,hval⟩:=hok
 have e : fn' = fn:=Option.some.inj (hfn'.symm.trans hfn)
 subst e
 obtain ⟨⟨⟨ds,gs,before,hw,hc⟩,hx⟩,hz⟩:=hpre
 have hw':=DataW.Whole.of_heap (w':=w.forCall tape i) (by rfl) hw
 refine (contract (w.forCall tape i) w.heap.size i.args ds gs before hval hw' hc (hz.weights hw) (hX _ _ _ (by rfl) hx) hsh).mono fun e W' ⟨v,he,hp⟩=>?_
 subst he
 exact ChangeSpec.post_blind hp
end Go.Proofs.YtpboohfofodeeaaGreatDoor
