/- 'for k, v := range m' over MapK (conditions: none; printed out of Rng by program). -/
import Derived.Test.YtpboohfofodeeaaGreatDoorM07
import Derived.Lib.QuietBelow
import Derived.Sort.Statements
import Derived.Shelf.SlSortCmp.Insertion
namespace Go.Proofs.YtpboohfofodeeaaGreatDoor
open Go.RowKit Go.Maps Go.WideShapes
/-- Whatever is keyed is one of ours. -/
def KeyInv (P : Program) (kt : TypeId) {κ : Type} (lit : κ → Lit) (enc : κ → Value) : Prop:=∀ key kl,keyOf P kt key = some kl → ∃ k,key = enc k ∧ kl = lit k
/-- A range over a map under way: r the iterator, left: which keys are still to come. -/
def RngK {κ : Type} (lit : κ → Lit) (P : Program) (kt : TypeId) (w : World) (b r : Nat) (f : κ → Option Value) (n : Nat) (left : κ → Bool) (cnt : Nat) : Prop:=
 ∃ D left',w.ranges P kt Rv b r n D left' cnt ∧ Maps.size D = n ∧ (∀ k,valAtK lit D k = f k) ∧ ∀ k,left' (lit k) = left k
section
variable {κ : Type} {lit : κ → Lit} {enc : κ → Value} {ok : κ → Prop} {P : Program} {kt : TypeId} {w w' : World} {b r n cnt : Nat} {f : κ → Option Value} {left : κ → Bool}
theorem RngK.map (h : RngK lit P kt w b r f n left cnt) : MapK lit P kt w b f n:=by
 obtain ⟨D,left',h1,h2,h3,_⟩:=h
 exact ⟨D,h1.owns,h2,h3⟩
theorem RngK.left_eq (h : RngK lit P kt w b r f n left cnt) : w.rangeLeft b r = cnt:=by
 obtain ⟨D,left',h1,_⟩:=h
 exact h1.left_eq
theorem MapK.range_ (h : MapK lit P kt w b f n) (E : KeyEnc P kt lit enc ok) {t e : TypeId} (ht : P.underlying t = some (.map kt e)) :
 ∃ w',(Instr.range t (.map (some b))).run P w = .ok (.pointer (some ⟨w.heap.size,0,none⟩)) w' ∧ RngK lit P kt w' b w.heap.size f n (fun k=>(f k).isSome) n ∧ w.grownBy w' none ∧ w'.heap.size = w.heap.size + 1:=by
 obtain ⟨D,h1,h2,h3⟩:=h
 obtain ⟨w',e1,e2,e3,e4⟩:=h1.range E.keyed ht
 exact ⟨w',e1,⟨D,_,by rw [h2] at e2; exact e2,h2,h3,fun k=>by show _ = (f k).isSome; rw [← h3 k]; exact (isSome_valAtK h1 E k).symm⟩,e3,e4⟩
open Classical in
theorem RngK.next_ (h : RngK lit P kt w b r f n left cnt) (E : KeyEnc P kt lit enc ok) (V : KeyInv P kt lit enc) (ty : TypeId) :
 (cnt = 0 ∧ (∀ k,left k = false) ∧ (Instr.next (.pointer (some ⟨r,0,none⟩)) false ty).run P w = .ok (.tuple #[.bool false]) w) ∨
 ∃ (k : κ) (v : Value) (w' : World) (cnt' : Nat),left k = true ∧ f k = some v ∧ (Instr.next (.pointer (some ⟨r,0,none⟩)) false ty).run P w = .ok (.tuple #[.bool true,enc k,v]) w' ∧
  RngK lit P kt w' b r f n (fun x=>left x && !(decide (x = k))) cnt' ∧ cnt' < cnt ∧ w.grownBy w' (some r) ∧ w'.heap.size = w.heap.size ∧ (Instr.entry (.pointer (some ⟨r,0,none⟩))).run P w' = .ok (.tuple #[enc k,v]) w':=by
 obtain ⟨D,left',h1,h2,h3,h4⟩:=h
 rcases h1.next E.keyed ty with ⟨a1,a2,a3⟩ | ⟨key,v,kl,y,w',cnt',a1,a2,a3,a4,a5,a6,a7,a8,a9,a10⟩
 ·exact .inl ⟨a1,fun k=>by rw [← h4 k]; exact a2 _,a3⟩
 ·obtain ⟨k,rfl,rfl⟩:=V _ _ a1
  refine .inr ⟨k,v,w',cnt',by rw [← h4 k]; exact a2,?_,a5,⟨D,_,a6,h2,h3,fun x=>?_⟩,a7,a8,a9,a10⟩
  ·rw [← h3 k]
   have hh : Maps.has D (lit k) = true:=Maps.has_true_of_atKey a4
   unfold Rv at a3
   cases a3
   unfold valAtK
   rw [if_pos hh,a4]
  ·simp only [h4 x]
   congr 1
   by_cases e : x = k
   ·subst e
    rw [WideAt.sameKey_self (E.isKey x)]; simp
   ·have : (lit x).sameKey (lit k) = false:=by
     cases hs : (lit x).sameKey (lit k)
     ·rfl
     ·exact absurd (E.inj _ _ (WideAt.sameKey_eq hs)) e
    simp [this,e]
end
end Go.Proofs.YtpboohfofodeeaaGreatDoor
/- Whatever is keyed as a string, as a slot, is one (conditions: none). -/
namespace Go.Proofs.YtpboohfofodeeaaGreatDoor
open Go.RowKit Go.Maps Go.WideShapes
theorem string_inv {P : Program} {kt : TypeId} (hk : P.underlying kt = some .string) : KeyInv P kt litS Value.string:=fun key kl h=>by
 cases key <;> simp [keyOf,hk,mapKey] at h
 rename_i s
 exact ⟨s,rfl,h.2.symm⟩
set_option maxRecDepth 100000 in
theorem slot_inv : KeyInv Tryz.prog 96 (fun k : SlotK=>litSl k.1) (fun k=>encSl k.1):=fun key kl h=>by
 have hu:=Tryz.underlying96
 have hi:=Tryz.underlying3
 have hs:=Tryz.underlying9
 have hc : Tryz.prog.cellsOf 96 = 2:=by kernel_rfl
 have hc1 : Tryz.prog.cellsOf 3 = 1:=by kernel_rfl
 have hc2 : Tryz.prog.cellsOf 9 = 1:=by kernel_rfl
 obtain ⟨m,hm⟩ : ∃ m,Tryz.prog.types.size = m + 1:=⟨Tryz.prog.types.size - 1,by
  have : 0 < Tryz.prog.types.size:=by decide +kernel
  omega⟩
 have hfm : Value.formed Tryz.prog 96 key = true:=by
  unfold keyOf at h
  rw [hu] at h
  change (if (Tryz.prog.keyType 96 && Value.formed Tryz.prog 96 key) = true then _ else none) = some kl at h
  clear hm
  by_cases hf : (Tryz.prog.keyType 96 && Value.formed Tryz.prog 96 key) = true
  ·exact (Bool.and_eq_true_iff.1 hf).2
  ·rw [if_neg hf] at h; exact absurd h (by simp)
 cases key <;> simp [Value.formed,hu,hc] at hfm
 rename_i cs
 obtain ⟨a,b,rfl⟩ : ∃ a b,cs = #[a,b]:=by
  obtain ⟨l⟩:=cs
  match l,hfm with
  | [a,b],_=>exact ⟨a,b,rfl⟩
 have ht : Tryz.prog.keyType 96 = true:=by kernel_rfl
 have hf : Value.formed Tryz.prog 96 (.agg #[a,b]) = true:=by simp [Value.formed,hu,hc]
 unfold keyOf at h
 rw [hu] at h
 change (if (Tryz.prog.keyType 96 && Value.formed Tryz.prog 96 (.agg #[a,b])) = true then (Tryz.prog.keyLits (Tryz.prog.types.size + 1) 96 [a,b]).map (fun ls=>Lit.string (keyBytes ls)) else none) = some kl at h
 rw [if_pos (by rw [ht,hf]; rfl),hm] at h
 cases a <;> cases b <;> simp [Program.keyLits,hu,hi,hs,hc,hc1,hc2] at h
 rename_i q d n
 by_cases h1 : q = IntKind.i64 ∧ (Lit.int IntKind.i64 d).wf = true
 ·obtain ⟨rfl,hw⟩:=h1
  rw [if_pos ⟨rfl,hw⟩] at h
  by_cases h2 : n.size ≤ maxLen
  ·rw [if_pos h2] at h
   exact ⟨⟨(d,n),hw,h2⟩,rfl,(Option.some.inj h).symm⟩
  ·rw [if_neg h2] at h
   exact absurd h (by simp)
 ·rw [if_neg h1] at h
  exact absurd h (by simp)
end Go.Proofs.YtpboohfofodeeaaGreatDoor
/- state: rooted (conditions: none). -/
namespace Go.Proofs.YtpboohfofodeeaaGreatDoor
open Go.RowKit Go.Maps
/-- Is there a root, and a next number above all? -/
def rootedP (F : Int → Option Value) (next : Int) (kd : Option Int) : Prop:=(∀ k,(F k).isSome = true → k < next) ∧ kd = some 2
def TellsP (P : Prop) (e : Ending) : Prop:=∃ r : Bool,e = .returned (.bool r) ∧ (r = true ↔ P)
theorem st_rooted {w : World} {f b n : Nat} {next : Int} {nm : Value} {F : Int → Option Value} (hf : Blk w f 91 #[.int .i64 next,.map (some b),nm]) (hm : NodesM w b F n)
 (kd : Option Int) (hn : (F 1 = none ∧ kd = none) ∨ ∃ (g : Nat) (nd : ND) (ps : Value) (at_ : Nat),F 1 = some (.pointer (some ⟨g,0,none⟩)) ∧ Blk w g 135 (nodeC nd ps at_) ∧ kd = some nd.kind) :
 Calls Tryz.prog 46 #[.pointer (some ⟨f,0,none⟩)] w fun e w'=>TellsP (rootedP F next kd) e ∧ Below w.heap.size w w':=by
 have c0 : w.cell? ⟨f,0,none⟩ = some (.int .i64 next):=hf.cell 0
 have c1 : w.cell? ⟨f,1,none⟩ = some (.map (some b)):=hf.cell 1
 obtain ⟨w1,hrun,hrg,hg1,hs1⟩:=MapI.range_ hm Tryz.underlying3 Tryz.underlying88
 go_enter Tryz.func46,Tryz.ntmps46
 go_wp2
 have hb0 : Below w.heap.size w w1:=((Keep.of_grown hg1 (fun _=>False) (fun k hk=>by cases hk)).to_below (Nat.le_refl _) (fun _ h=>h.elim))
 clear hrun
 go_loopw [3] (fun _ wr=>∃ left cnt,RngI Tryz.prog 3 wr b w.heap.size F n left cnt ∧ Below w.heap.size w wr ∧ Hid (∀ k,(F k).isSome = true → left k = false → k < next)) (fun _ wr=>wr.rangeLeft b w.heap.size)
 case atStart=>exact ⟨_,_,hrg,hb0,Lib.hid (fun k h1 h2=>by rw [h1] at h2; cases h2)⟩
 case round=>
  obtain ⟨left,cnt,hrg2,hb,HLT⟩:=hrel
  have d0:=keepc' hb c0
  rcases hrg2.next_ Tryz.underlying3 0 with ⟨h0,hl,hN⟩ | ⟨k,v,w2,cnt',hk,hF,hwf,hN,hrg3,hlt,hg,hs,hE⟩
  ·have hf2 : Hid (Blk wr f 91 #[.int .i64 next,.map (some b),nm]):=Lib.hid (blk_below hf hb)
   have hn2 : Hid ((F 1 = none ∧ kd = none) ∨ ∃ (g : Nat) (nd : ND) (ps : Value) (at_ : Nat),F 1 = some (.pointer (some ⟨g,0,none⟩)) ∧ Blk wr g 135 (nodeC nd ps at_) ∧ kd = some nd.kind):=Lib.hid (hn.imp id fun ⟨g,nd,ps,at_,x,y,z⟩=>⟨g,nd,ps,at_,x,blk_below y hb,z⟩)
   have hI:=Lib.hid (st_is 1 2 hf2.out hrg2.map (by decide) kd hn2.out)
   clear hn hf hm hf2 hn2 hrg hrg2
   go_wp2_with (go_at_call 99; refine hI.out.mono ?_; rintro e w' ⟨rfl,rfl⟩)
   go_ret
   refine ⟨⟨kd == some 2,rfl,?_⟩,hb⟩
   rw [beq_iff_eq]
   exact ⟨fun h=>⟨fun k hk=>HLT.out k hk (hl k),h⟩,fun h=>h.2⟩
  ·have hno : next ≤ k → Hid (TellsP (rootedP F next kd) (.returned (.bool false))):=fun h=>Lib.hid ⟨false,rfl,⟨fun h=>(by cases h),fun hr=>by have:=hr.1 k (by rw [hF]; rfl); omega⟩⟩
   have hb2 : Below w.heap.size w w2:=hb.trans ((Keep.of_grown hg (fun i=>i = w.heap.size) (fun k hk=>by cases hk; exact .inl rfl)).to_below (hb.size) (fun i h=>by omega))
   have d2:=keepc' hb2 c0
   by_cases hkn : next ≤ k
   ·have hno:=hno hkn
    go_wp2
    all_goals go_ret
    all_goals exact ⟨hno.out,hb2⟩
   ·clear hno
    go_wp2
    go_roundw
    case rel=>exact ⟨_,_,hrg3,hb2,Lib.hid (fun x h1 h2=>by
     by_cases e : x = k
     ·subst e; omega
     ·exact HLT.out x h1 (by simpa [e] using h2))⟩
    case measure=>rw [hrg3.left_eq,hrg2.left_eq]; omega
end Go.Proofs.YtpboohfofodeeaaGreatDoor
/- state: named (conditions: none). -/
namespace Go.Proofs.YtpboohfofodeeaaGreatDoor
open Go.RowKit Go.Maps
/-- Every node's kind, as it stands in memory. -/
def KindsB (w : World) (F : Int → Option Value) (kd : Int → Option Int) : Prop:=∀ k,(F k = none ∧ kd k = none) ∨ ∃ (g : Nat) (nd : ND) (ps : Value) (at_ : Nat),F k = some (.pointer (some ⟨g,0,none⟩)) ∧ Blk w g 135 (nodeC nd ps at_) ∧ kd k = some nd.kind
theorem KindsB.below {w w' : World} {F : Int → Option Value} {kd : Int → Option Int} (h : KindsB w F kd) (hb : Below w.heap.size w w') : KindsB w' F kd:=fun k=>(h k).imp id fun ⟨g,nd,ps,at_,x,y,z⟩=>⟨g,nd,ps,at_,x,blk_below y hb,z⟩
theorem KindsB.none_ {w : World} {F : Int → Option Value} {kd : Int → Option Int} (h : KindsB w F kd) (k : Int) : F k = none ↔ kd k = none:=by
 rcases h k with ⟨a,b⟩ | ⟨g,nd,ps,at_,a,_,b⟩ <;> simp [a,b]
def NamesM (w : World) (b : Nat) (G : SlotK → Option Value) (n : Nat) : Prop:=MapK (fun k : SlotK=>litSl k.1) Tryz.prog 96 w b G n
theorem RngK.alloc_ {κ : Type} {lit : κ → Lit} {P : Program} {kt : TypeId} {w : World} {b r n cnt : Nat} {f : κ → Option Value} {left : κ → Bool} (h : RngK lit P kt w b r f n left cnt) (o : Obj) : RngK lit P kt (w.alloc o) b r f n left cnt:=by
 obtain ⟨D,left',h1,h2⟩:=h
 exact ⟨D,left',h1.alloc o,h2⟩
theorem RngK.below {κ : Type} {lit : κ → Lit} {P : Program} {kt : TypeId} {w w' : World} {b r n cnt : Nat} {f : κ → Option Value} {left : κ → Bool} (h : RngK lit P kt w b r f n left cnt) (hb : Below w.heap.size w w') : RngK lit P kt w' b r f n left cnt:=by
 obtain ⟨D,left',⟨es,clock,since,seen,c0,h1,h2,h3,h4,h5,h6⟩,h7⟩:=h
 exact ⟨D,left',⟨es,clock,since,seen,c0,(hb.block b (lt_of_heap h1)).trans h1,h2,h3,h4,(hb.block r (lt_of_heap h5)).trans h5,h6⟩,h7⟩
/-- Do names lead from directories to inodes? -/
def namedP (G : SlotK → Option Value) (kd : Int → Option Int) : Prop:=∀ (s : SlotK) (ino : Int),G s = some (.int .i64 ino) → kd s.1.1 = some 2 ∧ ino ≠ 1 ∧ kd ino ≠ none ∧ nameB s.1.2 = true
set_option maxHeartbeats 1000000 in
set_option maxRecDepth 100000 in
theorem st_named {w : World} {f b m n n2 : Nat} {next : Int} {F : Int → Option Value} {G : SlotK → Option Value} (hf : Blk w f 91 #[.int .i64 next,.map (some b),.map (some m)]) (hm : NodesM w b F n) (hg : NamesM w m G n2)
 (kd : Int → Option Int) (hn : KindsB w F kd) (hv : ∀ s v,G s = some v → ∃ ino,v = .int .i64 ino ∧ (Lit.int .i64 ino).wf = true ∧ s.1.2.size ≤ 140737488351232) :
 Calls Tryz.prog 47 #[.pointer (some ⟨f,0,none⟩)] w fun e w'=>TellsP (namedP G kd) e ∧ Below w.heap.size w w':=by
 have c2 : w.cell? ⟨f,2,none⟩ = some (.map (some m)):=hf.cell 2
 have c1 : w.cell? ⟨f,1,none⟩ = some (.map (some b)):=hf.cell 1
 obtain ⟨w1,hrun,hrg,hg1,hs1⟩:=MapK.range_ hg slot_enc Tryz.underlying89
 go_enter Tryz.func47,Tryz.ntmps47
 go_wp2
 have hb0 : Below w.heap.size w w1:=((Keep.of_grown hg1 (fun _=>False) (fun k hk=>by cases hk)).to_below (Nat.le_refl _) (fun _ h=>h.elim))
 clear hrun
 go_loopw [3,4] (fun _ _ wr=>∃ left cnt,RngK (fun k : SlotK=>litSl k.1) Tryz.prog 96 wr m w.heap.size G n2 left cnt ∧ Below w.heap.size w wr ∧ Hid (∀ s ino,G s = some (.int .i64 ino) → left s = false → kd s.1.1 = some 2 ∧ ino ≠ 1 ∧ kd ino ≠ none ∧ nameB s.1.2 = true)) (fun _ _ wr=>wr.rangeLeft m w.heap.size)
 case atStart=>exact ⟨_,_,hrg,hb0,Lib.hid (fun s ino h1 h2=>by rw [h1] at h2; cases h2)⟩
 case round=>
  obtain ⟨left,cnt,hrg2,hb,HLT⟩:=hrel
  rcases hrg2.next_ slot_enc slot_inv 0 with ⟨h0,hl,hN⟩ | ⟨s,v,w2,cnt',hk,hF,hN,hrg3,hlt,hg2,hs2,hE⟩
  ·have hyes : Hid (TellsP (namedP G kd) (.returned (.bool true))):=Lib.hid ⟨true,rfl,⟨fun _ s ino h=>HLT.out s ino h (hl s),fun _=>rfl⟩⟩
   clear hn hf hm hg hrg hrg2
   go_wp2
   go_ret
   exact ⟨hyes.out,hb⟩
  ·obtain ⟨ino,rfl,hwi,hsz⟩:=hv s v hF
   obtain ⟨⟨d,nm⟩,hwd,hwn⟩:=s
   have hb2 : Below w.heap.size w w2:=hb.trans ((Keep.of_grown hg2 (fun i=>i = w.heap.size) (fun k hk=>by cases hk; exact .inl rfl)).to_below (hb.size) (fun i h=>by omega))
   have hen : encSl (d,nm) = .agg #[.int .i64 d,.string nm]:=rfl
   simp only [hen] at hN hE
   have hb3 : Below w.heap.size w (w2.alloc (.cells #[.int .i64 d,.string nm] 96)):=hb2.alloc hb2.size _
   have hrg4:=hrg3.alloc_ (.cells #[.int .i64 d,.string nm] 96)
   have hN3:=hn.below hb3
   have hf3:=blk_below hf hb3
   have hm3 : NodesM (w2.alloc (.cells #[.int .i64 d,.string nm] 96)) b F n:=MapI.keep hm (Keep.of_below hb3 (fun _=>False)) (fun h=>h)
   have hI:=Lib.hid (st_is d 2 hf3 hm3 hwd (kd d) (hN3 d))
   have hL:=nodes_look hm3 ino hwi
   have hP : Hid (∀ W,Calls Tryz.prog 52 #[.string nm] W fun e w'=>e = .returned (.bool (nameB nm)) ∧ Below W.heap.size W w'):=Lib.hid fun W=>pt_name nm W hsz
   have hd1 : (w2.alloc (.cells #[.int .i64 d,.string nm] 96)).cell? ⟨f,1,none⟩ = some (.map (some b)):=keepc' hb3 c1
   have hno : ¬ (kd d = some 2 ∧ ino ≠ 1 ∧ kd ino ≠ none ∧ nameB nm = true) → Hid (TellsP (namedP G kd) (.returned (.bool false))):=fun h=>Lib.hid ⟨false,rfl,⟨fun h=>(by cases h),fun hr=>absurd (hr _ ino hF) h⟩⟩
   have HNO:=Lib.hid hno
   have hki:=hN3 ino
   clear hn hf hm hg hrg hv hno hN3 hf3 hm3
   rcases hki with ⟨hFi,hKi⟩ | ⟨g,nd,ps,at_,hFi,_,hKi⟩
   ·rw [hFi] at hL
    have hno:=HNO.out (fun h=>h.2.2.1 hKi)
    go_wp2_with (go_at_call 99; refine hI.out.mono ?_; rintro e w' ⟨rfl,rfl⟩)
    all_goals go_ret
    all_goals exact ⟨hno.out,hb3⟩
   ·rw [hFi] at hL
    have hKn : kd ino ≠ none:=by rw [hKi]; simp
    by_cases hnm : nameB nm = true
    ·go_wp2_with first
      |(go_at_call 99; refine hI.out.mono ?_; rintro e w' ⟨rfl,rfl⟩)
      |(go_at_call 52; refine (hP.out _).mono ?_; rintro e w' ⟨rfl,hb4⟩)
     ·go_ret
      exact ⟨(HNO.out (fun h=>h.2.1 (by assumption))).out,hb3⟩
     ·go_roundw
      case rel=>exact ⟨_,_,hrg4.below hb4,bl_t hb3 hb4,Lib.hid (fun x i2 h1 h2=>by
       by_cases e : x = ⟨(d,nm),hwd,hwn⟩
       ·subst e
        rw [hF] at h1
        cases h1
        exact ⟨by assumption,by assumption,hKn,hnm⟩
       ·exact HLT.out x i2 h1 (by simpa [e] using h2))⟩
      case measure=>rw [(hrg4.below hb4).left_eq,hrg2.left_eq]; omega
     ·go_ret
      exact ⟨(HNO.out (fun h=>absurd h.1 (by assumption))).out,hb3⟩
    ·have hno:=HNO.out (fun h=>hnm h.2.2.2)
     go_wp2_with first
      |(go_at_call 99; refine hI.out.mono ?_; rintro e w' ⟨rfl,rfl⟩)
      |(go_at_call 52; refine (hP.out _).mono ?_; rintro e w' ⟨rfl,hb4⟩)
     all_goals go_ret
     all_goals first | exact ⟨hno.out,hb3⟩ | exact ⟨hno.out,bl_t hb3 (by assumption)⟩
end Go.Proofs.YtpboohfofodeeaaGreatDoor
/- state: nodes whole; filled (conditions: none). -/
namespace Go.Proofs.YtpboohfofodeeaaGreatDoor
open Go.RowKit Go.Maps
/-- A node: its inode, its pieces, its attributes. -/
structure NodeA where
 nd : ND
 ps : List (Int × ByteArray)
 at_ : ByteArray → Option ByteArray
/-- A node in memory: its block, its pieces, its attributes' map. -/
def NodeB (w : World) (v : Value) (a : NodeA) : Prop:=∃ (g : Nat) (A : Option Addr) (n c ab an : Nat),v = .pointer (some ⟨g,0,none⟩) ∧ Blk w g 135 (nodeC a.nd (.slice A n c) ab) ∧ RdP w A n a.ps ∧ n ≤ c ∧
 MapK litS Tryz.prog 9 w ab (fun s=>(a.at_ s).map Value.string) an
def NodesB (w : World) (F : Int → Option Value) (N : Int → Option NodeA) : Prop:=∀ k,(F k = none ∧ N k = none) ∨ ∃ v a,F k = some v ∧ N k = some a ∧ NodeB w v a
theorem NodeB.below {w w' : World} {v : Value} {a : NodeA} (h : NodeB w v a) (hb : Below w.heap.size w w') : NodeB w' v a:=by
 obtain ⟨g,A,n,c,ab,an,h1,h2,h3,h4,h5⟩:=h
 exact ⟨g,A,n,c,ab,an,h1,blk_below h2 hb,h3.below hb,h4,h5.keep (Keep.of_below hb (fun _=>False)) (fun h=>h)⟩
theorem NodesB.below {w w' : World} {F : Int → Option Value} {N : Int → Option NodeA} (h : NodesB w F N) (hb : Below w.heap.size w w') : NodesB w' F N:=fun k=>(h k).imp id fun ⟨v,a,x,y,z⟩=>⟨v,a,x,y,z.below hb⟩
theorem NodesB.kinds {w : World} {F : Int → Option Value} {N : Int → Option NodeA} (h : NodesB w F N) : KindsB w F (fun k=>(N k).map fun a=>a.nd.kind):=fun k=>by
 rcases h k with ⟨a,b⟩ | ⟨v,a,x,y,⟨g,A,n,c,ab,an,h1,h2,_⟩⟩
 ·exact .inl ⟨a,by simp [b]⟩
 ·exact .inr ⟨g,a.nd,.slice A n c,ab,by rw [x,h1],h2,by simp [y]⟩
end Go.Proofs.YtpboohfofodeeaaGreatDoor
/- More words for ranges over maps: what keeps one, what it is not (conditions: none). -/
namespace Go.Proofs.YtpboohfofodeeaaGreatDoor
open Go.RowKit Go.Maps Go.WideShapes
section
variable {P : Program} {kt kt' : TypeId} {w w' : World} {b r n cnt b' n' : Nat} {f f' : Int → Option Value} {left : Int → Bool}
theorem RngI.keep {S : Nat → Prop} (h : RngI P kt w b r f n left cnt) (hk : Keep S w w') (hb : ¬ S b) (hr : ¬ S r) : RngI P kt w' b r f n left cnt:=by
 obtain ⟨D,left',⟨es,clock,since,seen,c0,h1,h2,h3,h4,h5,h6⟩,h7⟩:=h
 exact ⟨D,left',⟨es,clock,since,seen,c0,hk.heap h1 hb,h2,h3,h4,hk.heap h5 hr,h6⟩,h7⟩
theorem RngI.below (h : RngI P kt w b r f n left cnt) (hb : Below w.heap.size w w') : RngI P kt w' b r f n left cnt:=h.keep (Keep.of_below hb (fun _=>False)) (fun h=>h) (fun h=>h)
theorem RngI.alloc_ (h : RngI P kt w b r f n left cnt) (o : Obj) : RngI P kt (w.alloc o) b r f n left cnt:=h.below ((Below.refl _ _).alloc (Nat.le_refl _) o)
theorem RngI.iter (h : RngI P kt w b r f n left cnt) : ∃ since seen c0,w.heap[r]? = some (.mapIter (some b) since seen c0):=by
 obtain ⟨D,left',⟨es,clock,since,seen,c0,h1,h2,h3,h4,h5,h6⟩,h7⟩:=h
 exact ⟨since,seen,c0,h5⟩
theorem RngI.lt_ (h : RngI P kt w b r f n left cnt) : r < w.heap.size:=let ⟨_,_,_,h⟩:=h.iter; lt_of_heap h
theorem RngI.ne_blk (h : RngI P kt w b r f n left cnt) {g : Nat} {t : TypeId} {cs : Array Value} (hg : Blk w g t cs) : r ≠ g:=by
 rintro rfl
 obtain ⟨_,_,_,h⟩:=h.iter
 unfold Blk at hg
 rw [h] at hg
 cases hg
theorem RngI.ne_mapI (h : RngI P kt w b r f n left cnt) (hg : MapI P kt' w b' f' n') : r ≠ b':=by
 rintro rfl
 obtain ⟨_,_,_,h⟩:=h.iter
 obtain ⟨D,⟨es,clock,hb,_⟩,_⟩:=hg
 rw [h] at hb
 cases hb
theorem RngI.ne_own (h : RngI P kt w b r f n left cnt) {base : Nat} {e : TypeId} {size m : Nat} {v : Value} {xs : List Value} (ho : w.ownsRow base e size v m xs) : v.ownBlock ≠ some r:=by
 rcases ho.2 with ⟨rfl,_⟩ | ⟨g',cap,cur,rfl,_,hh,_⟩
 ·simp [Value.ownBlock]
 ·intro he
  have : g' = r:=by simpa [Value.ownBlock] using he
  subst this
  exact h.ne_blk (t:=e) (cs:=cur) hh rfl
end
section
variable {κ : Type} {lit : κ → Lit} {P : Program} {kt kt' : TypeId} {w w' : World} {b r n cnt b' n' : Nat} {f : κ → Option Value} {f' : Int → Option Value} {left : κ → Bool}
theorem RngK.keep {S : Nat → Prop} (h : RngK lit P kt w b r f n left cnt) (hk : Keep S w w') (hb : ¬ S b) (hr : ¬ S r) : RngK lit P kt w' b r f n left cnt:=by
 obtain ⟨D,left',⟨es,clock,since,seen,c0,h1,h2,h3,h4,h5,h6⟩,h7⟩:=h
 exact ⟨D,left',⟨es,clock,since,seen,c0,hk.heap h1 hb,h2,h3,h4,hk.heap h5 hr,h6⟩,h7⟩
theorem RngK.iter (h : RngK lit P kt w b r f n left cnt) : ∃ since seen c0,w.heap[r]? = some (.mapIter (some b) since seen c0):=by
 obtain ⟨D,left',⟨es,clock,since,seen,c0,h1,h2,h3,h4,h5,h6⟩,h7⟩:=h
 exact ⟨since,seen,c0,h5⟩
theorem RngK.lt_ (h : RngK lit P kt w b r f n left cnt) : r < w.heap.size:=let ⟨_,_,_,h⟩:=h.iter; lt_of_heap h
theorem RngK.ne_blk (h : RngK lit P kt w b r f n left cnt) {g : Nat} {t : TypeId} {cs : Array Value} (hg : Blk w g t cs) : r ≠ g:=by
 rintro rfl
 obtain ⟨_,_,_,h⟩:=h.iter
 unfold Blk at hg
 rw [h] at hg
 cases hg
theorem RngK.ne_mapI (h : RngK lit P kt w b r f n left cnt) (hg : MapI P kt' w b' f' n') : r ≠ b':=by
 rintro rfl
 obtain ⟨_,_,_,h⟩:=h.iter
 obtain ⟨D,⟨es,clock,hb,_⟩,_⟩:=hg
 rw [h] at hb
 cases hb
theorem RngK.ne_own (h : RngK lit P kt w b r f n left cnt) {base : Nat} {e : TypeId} {size m : Nat} {v : Value} {xs : List Value} (ho : w.ownsRow base e size v m xs) : v.ownBlock ≠ some r:=by
 rcases ho.2 with ⟨rfl,_⟩ | ⟨g',cap,cur,rfl,_,hh,_⟩
 ·simp [Value.ownBlock]
 ·intro he
  have : g' = r:=by simpa [Value.ownBlock] using he
  subst this
  exact h.ne_blk (t:=e) (cs:=cur) hh rfl
theorem RngK.of_none {left2 : κ → Bool} (h : RngK lit P kt w b r f n left cnt) (e : ∀ k,left k = left2 k) : RngK lit P kt w b r f n left2 cnt:=by
 have : left = left2:=funext e
 rw [← this]; exact h
theorem MapK.mapI_ne_of_lt (h : MapK lit P kt w b f n) {c : Nat} (hc : w.heap.size ≤ c) : b ≠ c:=by
 have:=h.lt
 omega
end
/-- How many are still to come: at most all. -/
theorem RngK.le_ {κ : Type} {lit : κ → Lit} {P : Program} {kt : TypeId} {w : World} {b r n cnt : Nat} {f : κ → Option Value} {left : κ → Bool} (h : RngK lit P kt w b r f n left cnt) : w.rangeLeft b r = cnt:=h.left_eq
end Go.Proofs.YtpboohfofodeeaaGreatDoor
/- state: filled (conditions: none). -/
namespace Go.Proofs.YtpboohfofodeeaaGreatDoor
open Go.RowKit Go.Maps
/-- Are a node's pieces a file's, and right? -/
def nodeOk (a : NodeA) : Prop:=(a.nd.kind ≠ 1 → a.ps = []) ∧ (a.nd.kind = 1 → checkP a.nd.size a.ps)
def filledP (N : Int → Option NodeA) : Prop:=∀ k a,N k = some a → nodeOk a
set_option maxRecDepth 100000 in
set_option maxHeartbeats 2000000 in
theorem st_filled {w : World} {f b n : Nat} {next : Int} {nm : Value} {F : Int → Option Value} {N : Int → Option NodeA} (hf : Blk w f 91 #[.int .i64 next,.map (some b),nm]) (hm : NodesM w b F n) (hn : NodesB w F N) (hlim : ∀ k a,N k = some a → a.ps.length ≤ 70368744175616) :
 Calls Tryz.prog 49 #[.pointer (some ⟨f,0,none⟩)] w fun e w'=>TellsP (filledP N) e ∧ Below w.heap.size w w':=by
 have c1 : w.cell? ⟨f,1,none⟩ = some (.map (some b)):=hf.cell 1
 obtain ⟨w1,hrun,hrg,hg1,hs1⟩:=MapI.range_ hm Tryz.underlying3 Tryz.underlying88
 go_enter Tryz.func49,Tryz.ntmps49
 go_wp2
 have hb0 : Below w.heap.size w w1:=((Keep.of_grown hg1 (fun _=>False) (fun k hk=>by cases hk)).to_below (Nat.le_refl _) (fun _ h=>h.elim))
 clear hrun
 go_loopw [4] (fun _ wr=>∃ left cnt,RngI Tryz.prog 3 wr b w.heap.size F n left cnt ∧ Below w.heap.size w wr ∧ Hid (∀ k a,N k = some a → left k = false → nodeOk a)) (fun _ wr=>wr.rangeLeft b w.heap.size)
 case atStart=>exact ⟨_,_,hrg,hb0,Lib.hid (fun k a h1 h2=>by
  rcases hn k with ⟨_,y⟩ | ⟨v,a',x,_,_⟩
  ·rw [y] at h1; cases h1
  ·rw [x] at h2; cases h2)⟩
 case round=>
  obtain ⟨left,cnt,hrg2,hb,HLT⟩:=hrel
  rcases hrg2.next_ Tryz.underlying3 0 with ⟨h0,hl,hN⟩ | ⟨k,v,w2,cnt',hk,hF,hwf,hN,hrg3,hlt,hg,hs,hE⟩
  ·have hyes : Hid (TellsP (filledP N) (.returned (.bool true))):=Lib.hid ⟨true,rfl,⟨fun _ k a h=>HLT.out k a h (hl k),fun _=>rfl⟩⟩
   clear hn hf hm hrg hrg2
   go_wp2
   go_ret
   exact ⟨hyes.out,hb⟩
  ·have hb2 : Below w.heap.size w w2:=hb.trans ((Keep.of_grown hg (fun i=>i = w.heap.size) (fun k hk=>by cases hk; exact .inl rfl)).to_below (hb.size) (fun i h=>by omega))
   obtain ⟨a,hNa,hB⟩ : ∃ a,N k = some a ∧ NodeB w v a:=by
    rcases hn k with ⟨x,_⟩ | ⟨v',a',x,y,z⟩
    ·rw [x] at hF; cases hF
    ·rw [x] at hF; cases hF; exact ⟨a',y,z⟩
   obtain ⟨g,A,pn,pc,ab,an,rfl,h2,h3,h4,_⟩:=hB.below hb2
   have hno : ¬ nodeOk a → Hid (TellsP (filledP N) (.returned (.bool false))):=fun h=>Lib.hid ⟨false,rfl,⟨fun h=>(by cases h),fun hr=>absurd (hr k a hNa) h⟩⟩
   have hgo : nodeOk a → Hid (∀ x y,N x = some y → (left x && !(decide (x = k))) = false → nodeOk y):=fun h=>Lib.hid fun x y h1 h2=>by
    by_cases e : x = k
    ·subst e; rw [hNa] at h1; cases h1; exact h
    ·exact HLT.out x y h1 (by simpa [e] using h2)
   have HNO:=Lib.hid hno
   have HGO:=Lib.hid hgo
   have d0 : w2.cell? ⟨g,0,none⟩ = some (.int .i64 a.nd.kind):=h2.cell 0
   have d4 : w2.cell? ⟨g,4,none⟩ = some (.int .i64 a.nd.size):=h2.cell 4
   have d6 : w2.cell? ⟨g,6,none⟩ = some (.slice A pn pc):=h2.cell 6
   have H3:=Lib.hid h3
   have hlen:=h3.1
   clear hn hf hm hrg hno hgo hB h2 h3
   have k0:=cell_regrown d0
   have k4:=cell_regrown d4
   have k6:=cell_regrown d6
   have HQ : ∀ p : Regrown,Below w.heap.size w (Sort.grow (redrawn w2 p.d) p.os):=fun p=>bl_t hb2 (below_regrown w2 p.d p.os)
   have HRG : ∀ p : Regrown,RngI Tryz.prog 3 (Sort.grow (redrawn w2 p.d) p.os) b w.heap.size F n (fun x=>left x && !(decide (x = k))) cnt':=fun p=>hrg3.below (below_regrown w2 p.d p.os)
   have hmeas : ∀ p : Regrown,(Sort.grow (redrawn w2 p.d) p.os).rangeLeft b w.heap.size < wr.rangeLeft b w.heap.size:=fun p=>by rw [(HRG p).left_eq,hrg2.left_eq]; omega
   have HRGH:=Lib.hid HRG
   have HQH:=Lib.hid HQ
   have HMH:=Lib.hid hmeas
   clear HRG HQ hmeas hrg2 hrg3
   by_cases hkd : a.nd.kind = 1
   ·have hsc:=Lib.hid (fun w' (hb : Below w2.heap.size w2 w')=>sp_check (w:=w') (c:=pc) a.nd.size (H3.out.below hb) (by rw [← hlen]; exact hlim k a hNa))
    rw [hkd] at k0
    by_cases hck : checkP a.nd.size a.ps
    ·have hgo:=HGO.out ⟨fun h=>absurd hkd h,fun _=>hck⟩
     have cC : ∀ d os,Calls Tryz.prog 100 #[.slice A pn pc,.int .i64 a.nd.size] (Sort.grow (redrawn w2 d) os) fun e w''=>e = .returned (.int .i64 0) ∧ ∃ p : Regrown,w'' = Sort.grow (redrawn w2 p.d) p.os:=fun d os=>Calls.regrown_of ((hsc.out _ (below_regrown w2 d os)).mono fun e w' ⟨h,hb⟩=>⟨h.elim (fun h=>h.2) (fun h=>absurd hck h.1),hb⟩)
     clear hlen
     go_wp2_with fail
     refine wp_region_quiet_below (by kernel_rfl) (by kernel_rfl) ?_
     repeat (go_big_quiet_step (exact cC _ _))
     refine wpQuiet_nil ?_
     intro _ hw'
     obtain ⟨⟨dq,osq⟩,hw''⟩:=hw'
     subst hw''
     go_wp2_with fail
     go_roundw
     case rel=>exact ⟨_,_,HRGH.out ⟨dq,osq⟩,HQH.out ⟨dq,osq⟩,hgo⟩
     case measure=>exact HMH.out ⟨dq,osq⟩
    ·have hno:=HNO.out (fun h=>hck (h.2 hkd))
     have cC : ∀ d os,Calls Tryz.prog 100 #[.slice A pn pc,.int .i64 a.nd.size] (Sort.grow (redrawn w2 d) os) fun e w''=>e = .returned (.int .i64 21) ∧ ∃ p : Regrown,w'' = Sort.grow (redrawn w2 p.d) p.os:=fun d os=>Calls.regrown_of ((hsc.out _ (below_regrown w2 d os)).mono fun e w' ⟨h,hb⟩=>⟨h.elim (fun h=>absurd h.1 hck) (fun h=>h.2),hb⟩)
     clear hlen
     go_wp2_with fail
     refine wp_region_quiet_below (by kernel_rfl) (by kernel_rfl) ?_
     repeat (go_big_quiet_step (exact cC _ _))
     refine wpQuiet_nil ?_
     intro _ hw'
     obtain ⟨⟨dq,osq⟩,hw''⟩:=hw'
     subst hw''
     go_wp2_with fail
     go_ret
     exact ⟨hno.out,HQH.out ⟨dq,osq⟩⟩
   ·have e1 : (a.nd.kind != 1) = true:=by simpa using hkd
    have e2 : (a.nd.kind == 1) = false:=by simpa using hkd
    by_cases hp : pn = 0
    ·subst hp
     have hok:=HGO.out ⟨fun _=>List.length_eq_zero_iff.1 hlen,fun h=>absurd h hkd⟩
     go_wp2_with fail
     refine wp_region_quiet_below (by kernel_rfl) (by kernel_rfl) ?_
     repeat (go_big_quiet_step (fail))
     refine wpQuiet_nil ?_
     intro _ hw'
     obtain ⟨⟨dq,osq⟩,hw''⟩:=hw'
     subst hw''
     go_wp2_with fail
     go_roundw
     case rel=>exact ⟨_,_,HRGH.out ⟨dq,osq⟩,HQH.out ⟨dq,osq⟩,hok⟩
     case measure=>exact HMH.out ⟨dq,osq⟩
    ·have hno:=HNO.out (fun h=>hp (by rw [← hlen,h.1 hkd]; rfl))
     have hp' : (0 : Int) < pn:=by omega
     have hp4 : 0 < pn:=by omega
     have hp5 : decide (0 < pn) = true:=by simpa using hp4
     clear hlen
     go_wp2_with fail
     refine wp_region_quiet_below (by kernel_rfl) (by kernel_rfl) ?_
     repeat (go_big_quiet_step (fail))
     refine wpQuiet_nil ?_
     intro _ hw'
     obtain ⟨⟨dq,osq⟩,hw''⟩:=hw'
     subst hw''
     go_wp2_with fail
     go_ret
     exact ⟨hno.out,HQH.out ⟨dq,osq⟩⟩
end Go.Proofs.YtpboohfofodeeaaGreatDoor
/- state: Slots (conditions: slices.SortFunc at slots sorts: 'SortSl'). -/
namespace Go.Proofs.YtpboohfofodeeaaGreatDoor
open Go.RowKit Go.Maps
/-- A slot's two cells; a list's. -/
def slC (s : SlotK) : List Value:=[.int .i64 s.1.1,.string s.1.2]
def slCs (l : List SlotK) : List Value:=l.flatMap slC
theorem slCs_len (l : List SlotK) : (slCs l).length = l.length * 2:=by
 induction l with
 | nil=>rfl
 | cons s t ih=>simp [slCs,slC] at ih ⊢; omega
theorem slCs_snoc (l : List SlotK) (s : SlotK) : slCs (l ++ [s]) = slCs l ++ slC s:=by simp [slCs]
/-- Slots in order. -/
def slLt (a b : SlotK) : Prop:=lessS a.1.1 a.1.2 b.1.1 b.1.2 < 0
/-- Rows of slots, one an inode, in blocks of their own. -/
structure RowsS (w : World) (base : Nat) (F : Int → Option Value) (H : Int → List SlotK) : Prop where
 at_ : ∀ k,(F k = none ∧ H k = []) ∨ ∃ v,F k = some v ∧ H k ≠ [] ∧ w.ownsRow base 96 2 v (H k).length (slCs (H k))
 apart : ∀ j k v u,j ≠ k → F j = some v → F k = some u → v.ownBlock ≠ u.ownBlock
/-- The slots of each inode, in order. -/
def SlotsP (G : SlotK → Option Int) (H : Int → List SlotK) : Prop:=∀ ino,(H ino).Nodup ∧ (∀ s,s ∈ H ino ↔ G s = some ino) ∧ (H ino).Pairwise slLt
/-- What slices.SortFunc makes of a row of slots. -/
def SortSl : Prop:=∀ (W : World) (base n : Nat) (v : Value) (l : List SlotK),l ≠ [] → n = l.length → W.ownsRow base 96 2 v n (slCs l) → n ≤ 1099511627776 →
 Calls Tryz.prog 81 #[v,.func (.func 82) #[] #[]] W fun e w'=>e = .returned (.tuple #[]) ∧ ∃ l' : List SlotK,l'.Perm l ∧ l'.Pairwise (fun a b=>¬ slLt b a) ∧ w'.ownsRow base 96 2 v n (slCs l') ∧ Keep (fun i=>v.ownBlock = some i) W w'
theorem RowsS.get {w : World} {base : Nat} {F : Int → Option Value} {H : Int → List SlotK} (h : RowsS w base F H) (k : Int) : w.ownsRow base 96 2 ((F k).getD (.slice none 0 0)) (H k).length (slCs (H k)):=by
 rcases h.at_ k with ⟨a,b⟩ | ⟨v,a,_,c⟩
 ·rw [a,b]
  exact ⟨rfl,.inl ⟨rfl,rfl⟩⟩
 ·rw [a]; exact c
theorem own_block {w : World} {base n : Nat} {e : TypeId} {size : Nat} {v : Value} {xs : List Value} (h : w.ownsRow base e size v n xs) (hn : n ≠ 0) : ∃ g c,v = .slice (some ⟨g,0,none⟩) n c ∧ base ≤ g ∧ g < w.heap.size:=by
 rcases h.2 with ⟨_,h0⟩ | ⟨g,cap,cur,rfl,hb,hh,_⟩
 ·exact absurd h0 hn
 ·exact ⟨g,cap,rfl,hb,lt_of_heap hh⟩
theorem RowsS.keep {S : Nat → Prop} {w w' : World} {base : Nat} {F : Int → Option Value} {H : Int → List SlotK} (h : RowsS w base F H) (hk : Keep S w w') (hn : ∀ k v i,F k = some v → v.ownBlock = some i → ¬ S i) : RowsS w' base F H:=
 ⟨fun k=>(h.at_ k).imp id fun ⟨v,a,b,c⟩=>⟨v,a,b,own_keep c hk (fun i hi=>hn k v i a hi)⟩,h.apart⟩
theorem RowsS.below {w w' : World} {base : Nat} {F : Int → Option Value} {H : Int → List SlotK} (h : RowsS w base F H) (hb : Below w.heap.size w w') : RowsS w' base F H:=h.keep (Keep.of_below hb (fun _=>False)) (fun _ _ _ _ _ h=>h)
/-- One row more, or a longer one, or one in another order: v of the block of the elder one, or of a new one. -/
theorem RowsS.upd {w w' : World} {base : Nat} {F : Int → Option Value} {H : Int → List SlotK} (h : RowsS w base F H) (k : Int) (v : Value) (l : List SlotK) (hl : l ≠ []) (hv : w'.ownsRow base 96 2 v l.length (slCs l))
 (hk : Keep (fun i=>some i = ((F k).getD (.slice none 0 0)).ownBlock) w w') (hat : v.ownBlock = ((F k).getD (.slice none 0 0)).ownBlock ∨ ∃ g,v.ownBlock = some g ∧ w.heap.size ≤ g) : RowsS w' base (Go.Proofs.YtpboohfofodeeaaGreatDoor.upd F k v) (fun x=>if x = k then l else H x):=by
 have hold : ∀ j u,j ≠ k → F j = some u → ∀ i,u.ownBlock = some i → ¬ some i = ((F k).getD (.slice none 0 0)).ownBlock:=fun j u hj hu i hi he=>by
  cases hF : F k with
  | none=>rw [hF] at he; simp [Value.ownBlock] at he
  | some z=>rw [hF] at he; exact h.apart j k u z hj hu hF (hi.trans he)
 have hne : ∀ j u,j ≠ k → F j = some u → v.ownBlock ≠ u.ownBlock:=fun j u hj hu he=>by
  rcases h.at_ j with ⟨a,_⟩ | ⟨z,a,hz,hown⟩
  ·rw [a] at hu; cases hu
  ·rw [a] at hu; cases hu
   obtain ⟨g,c,rfl,_,hlt⟩:=own_block hown (fun e=>hz (List.length_eq_zero_iff.1 e))
   rcases hat with hat | ⟨g',hat,hge⟩
   ·exact hold j _ hj a g rfl (by rw [← hat,he]; rfl)
   ·rw [hat] at he
    simp [Value.ownBlock] at he
    omega
 refine ⟨fun x=>?_,fun i j a b hij ha hb=>?_⟩
 ·unfold Go.Proofs.YtpboohfofodeeaaGreatDoor.upd
  by_cases hx : x = k
  ·subst hx
   rw [if_pos rfl,if_pos rfl]
   exact .inr ⟨v,rfl,hl,hv⟩
  ·rw [if_neg hx,if_neg hx]
   exact (h.at_ x).imp id fun ⟨u,p,q,o⟩=>⟨u,p,q,own_keep o hk (fun i hi=>hold x u hx p i hi)⟩
 ·unfold Go.Proofs.YtpboohfofodeeaaGreatDoor.upd at ha hb
  by_cases hi : i = k
  ·subst hi
   rw [if_pos rfl] at ha; cases ha
   rw [if_neg (fun e=>hij e.symm)] at hb
   exact hne j b (fun e=>hij e.symm) hb
  ·rw [if_neg hi] at ha
   by_cases hj : j = k
   ·subst hj
    rw [if_pos rfl] at hb; cases hb
    exact fun e=>hne i a hi ha e.symm
   ·rw [if_neg hj] at hb
    exact h.apart i j a b hij ha hb
end Go.Proofs.YtpboohfofodeeaaGreatDoor
/- The orders of texts and of slots are total orders (conditions: none; plain Lean). -/
namespace Go.Proofs.YtpboohfofodeeaaGreatDoor
open Go.RowKit Go.Maps
theorem u8_tri (x y : UInt8) : x < y ∨ x = y ∨ y < x:=by
 rcases Nat.lt_trichotomy x.toNat y.toNat with h | h | h
 ·exact .inl (UInt8.lt_iff_toNat_lt.2 h)
 ·exact .inr (.inl (UInt8.toNat_inj.1 h))
 ·exact .inr (.inr (UInt8.lt_iff_toNat_lt.2 h))
theorem cb_self : ∀ a : List UInt8,Lib.compareBytes a a = 0
 | []=>by simp [Lib.compareBytes]
 | x :: t=>by simp [Lib.compareBytes,cb_self t]
theorem cb_flip : ∀ a b : List UInt8,Lib.compareBytes b a = - Lib.compareBytes a b
 | [],[]=>by simp [Lib.compareBytes]
 | [],_ :: _=>by simp [Lib.compareBytes]
 | _ :: _,[]=>by simp [Lib.compareBytes]
 | x :: s,y :: t=>by
  have ih:=cb_flip s t
  simp only [Lib.compareBytes]
  rcases u8_tri x y with h | h | h
  ·have h2 : ¬ y < x:=UInt8.lt_asymm h
   simp [h,h2]
  ·subst h; simp [ih]
  ·have h2 : ¬ x < y:=UInt8.lt_asymm h
   simp [h,h2]
theorem cb_eq : ∀ a b : List UInt8,Lib.compareBytes a b = 0 → a = b
 | [],[],_=>rfl
 | [],_ :: _,h=>by simp [Lib.compareBytes] at h
 | _ :: _,[],h=>by simp [Lib.compareBytes] at h
 | x :: s,y :: t,h=>by
  simp only [Lib.compareBytes] at h
  rcases u8_tri x y with e | e | e
  ·simp [e] at h
  ·subst e
   simp at h
   rw [cb_eq s t h]
  ·have h2 : ¬ x < y:=UInt8.lt_asymm e
   simp [e,h2] at h
theorem cb_trans : ∀ a b c : List UInt8,Lib.compareBytes a b < 0 → Lib.compareBytes b c < 0 → Lib.compareBytes a c < 0
 | [],[],_,h,_=>by simp [Lib.compareBytes] at h
 | [],_ :: _,[],_,h=>by simp [Lib.compareBytes] at h
 | [],_ :: _,_ :: _,_,_=>by simp [Lib.compareBytes]
 | _ :: _,[],_,h,_=>by simp [Lib.compareBytes] at h
 | _ :: _,_ :: _,[],_,h=>by simp [Lib.compareBytes] at h
 | x :: s,y :: t,z :: u,h1,h2=>by
  have ih:=cb_trans s t u
  simp only [Lib.compareBytes] at h1 h2 ⊢
  rcases u8_tri x y with e | e | e
  ·rcases u8_tri y z with f | f | f
   ·simp [UInt8.lt_trans e f]
   ·subst f; simp [e]
   ·have g : ¬ y < z:=UInt8.lt_asymm f
    simp [f,g] at h2
  ·subst e
   rcases u8_tri x z with f | f | f
   ·simp [f]
   ·subst f
    simp at h1 h2 ⊢
    exact ih h1 h2
   ·have g : ¬ x < z:=UInt8.lt_asymm f
    simp [f,g] at h2
  ·have g : ¬ x < y:=UInt8.lt_asymm e
   simp [e,g] at h1
/-- a text is less than another one. -/
def btLt (a b : ByteArray) : Prop:=Lib.compareBytes a.data.toList b.data.toList < 0
theorem bt_ext {a b : ByteArray} (h : a.data.toList = b.data.toList) : a = b:=by
 obtain ⟨⟨a⟩⟩:=a
 obtain ⟨⟨b⟩⟩:=b
 simp at h
 rw [h]
theorem btLt_irrefl (a : ByteArray) : ¬ btLt a a:=by unfold btLt; rw [cb_self]; omega
theorem btLt_trans {a b c : ByteArray} (h : btLt a b) (k : btLt b c) : btLt a c:=cb_trans _ _ _ h k
theorem btLt_tri (a b : ByteArray) : btLt a b ∨ a = b ∨ btLt b a:=by
 unfold btLt
 rw [cb_flip a.data.toList b.data.toList]
 rcases (by omega : Lib.compareBytes a.data.toList b.data.toList < 0 ∨ Lib.compareBytes a.data.toList b.data.toList = 0 ∨ - Lib.compareBytes a.data.toList b.data.toList < 0) with h | h | h
 ·exact .inl h
 ·exact .inr (.inl (bt_ext (cb_eq _ _ h)))
 ·exact .inr (.inr h)
/-- The order of slots, told by its parts. -/
theorem lessS_neg (d1 : Int) (n1 : ByteArray) (d2 : Int) (n2 : ByteArray) : lessS d1 n1 d2 n2 < 0 ↔ d1 < d2 ∨ d1 = d2 ∧ btLt n1 n2:=by
 unfold lessS or2 Lib.compareInt btLt
 rcases (by omega : d1 < d2 ∨ d1 = d2 ∨ d2 < d1) with h | h | h
 ·simp [h]
 ·subst h; simp
 ·have h2 : ¬ d1 < d2:=by omega
  have h3 : ¬ d1 = d2:=by omega
  simp [h,h2,h3]
theorem slp_tri (a b : Int × ByteArray) : lessS a.1 a.2 b.1 b.2 < 0 ∨ a = b ∨ lessS b.1 b.2 a.1 a.2 < 0:=by
 rw [lessS_neg,lessS_neg]
 obtain ⟨d1,n1⟩:=a
 obtain ⟨d2,n2⟩:=b
 simp only
 rcases (by omega : d1 < d2 ∨ d1 = d2 ∨ d2 < d1) with h | h | h
 ·exact .inl (.inl h)
 ·subst h
  rcases btLt_tri n1 n2 with k | k | k
  ·exact .inl (.inr ⟨rfl,k⟩)
  ·subst k; exact .inr (.inl rfl)
  ·exact .inr (.inr (.inr ⟨rfl,k⟩))
 ·exact .inr (.inr (.inl h))
theorem slp_trans {a b c : Int × ByteArray} (h : lessS a.1 a.2 b.1 b.2 < 0) (k : lessS b.1 b.2 c.1 c.2 < 0) : lessS a.1 a.2 c.1 c.2 < 0:=by
 rw [lessS_neg] at *
 rcases h with h | ⟨h,h'⟩ <;> rcases k with k | ⟨k,k'⟩
 ·exact .inl (by omega)
 ·exact .inl (by omega)
 ·exact .inl (by omega)
 ·exact .inr ⟨h.trans k,btLt_trans h' k'⟩
theorem slp_irrefl (a : Int × ByteArray) : ¬ lessS a.1 a.2 a.1 a.2 < 0:=by
 rw [lessS_neg]
 rintro (h | ⟨_,h⟩)
 ·omega
 ·exact btLt_irrefl _ h
/-- Any total order's test is what a sort wants. -/
theorem swo_of {α : Type} (cf : α → α → Int) (h1 : ∀ x,¬ cf x x < 0) (h2 : ∀ x y z,cf x y < 0 → cf y z < 0 → cf x z < 0) (h3 : ∀ x y,cf x y < 0 ∨ (∀ z,cf x z = cf y z) ∨ cf y x < 0) : Sort.SWO (ltOf cf) where
 irrefl x:=by simpa [ltOf] using h1 x
 trans x y z a b:=by simp only [ltOf,decide_eq_true_eq] at *; exact h2 x y z a b
 ntrans x y z a b:=by
  simp only [ltOf,decide_eq_false_iff_not] at *
  intro c
  rcases h3 x y with e | e | e
  ·exact a e
  ·exact b (by rw [← e]; exact c)
  ·exact b (h2 y x z e c)
end Go.Proofs.YtpboohfofodeeaaGreatDoor
