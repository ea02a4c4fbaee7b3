/- files: what does answers, and leaves (conditions: none). -/
import Derived.Test.YtpboohfofodeeaaGreatDoorM29
import Derived.Test.YtpboohfofodeeaaGreatDoorM20
import Derived.Test.YtpboohfofodeeaaGreatDoorM27
import Derived.Test.YtpboohfofodeeaaGreatDoorM03
import Derived.BigQuiet
namespace Go.Proofs.YtpboohfofodeeaaGreatDoor
open Go.RowKit Go.Maps
def followsB (k : Int) : Bool:=k == 8 || k == 9 || k == 10 || k == 11 || k == 21 || k == 16 || k == 17 || k == 18
/-- The inode that is made. -/
def newND (o : OpA) : ND:=if o.kind = 3 then ⟨3,0,0,0,0,o.data⟩ else ⟨o.kind,o.n,0,0,0,⟨#[]⟩⟩
def MakeR (fs : FS) (s : SlotK) (sino : Int) (nd : ND) (p : AnsP) (fs' : FS) : Prop:=
 (sino ≠ 0 ∧ p = ansP0 161 ∧ fs' = fs) ∨ (sino = 0 ∧ 1099511627776 < fs.next ∧ p = ansP0 169 ∧ fs' = fs) ∨
 (sino = 0 ∧ fs.next ≤ 1099511627776 ∧ fs' = makeS fs s nd ∧ ((p = { ansP0 120 with ino:=fs.next } ∧ longS fs') ∨ (p = { ansP0 0 with ino:=fs.next } ∧ ¬ longS fs')))
/-- What stands at a spot. -/
structure AtR (fs : FS) (r : WR) (sl : SlotK) (a : NodeA) : Prop where
 slot : sl.1 = (r.dir,r.name)
 ino : r.ino ≠ 0
 node : fs.N r.ino = some a
/-- An operation that may be, of files: the answer, the files. -/
def DoesR (fs : FS) (o : OpA) (p : AnsP) (fs' : FS) : Prop:=
 ((walkS fs o.path (followsB o.kind)).code ≠ 0 ∧ p = ansP0 (walkS fs o.path (followsB o.kind)).code ∧ fs' = fs) ∨
 ((walkS fs o.path (followsB o.kind)).code = 0 ∧
  (((o.kind = 1 ∨ o.kind = 2 ∨ o.kind = 3) ∧ ∃ sl : SlotK,sl.1 = ((walkS fs o.path (followsB o.kind)).dir,(walkS fs o.path (followsB o.kind)).name) ∧ MakeR fs sl (walkS fs o.path (followsB o.kind)).ino (newND o) p fs') ∨
   (4 ≤ o.kind ∧ (walkS fs o.path (followsB o.kind)).ino = 0 ∧ p = ansP0 160 ∧ fs' = fs) ∨
   (∃ sl a,AtR fs (walkS fs o.path (followsB o.kind)) sl a ∧
    ((o.kind = 4 ∧ ∃ code,LinkR fs (walkS fs o.path (followsB o.kind)).ino a o.dest code fs' ∧ p = ansP0 code) ∨
     (o.kind = 7 ∧ ∃ code,RenR fs sl (walkS fs o.path (followsB o.kind)).ino a o.dest code fs' ∧ p = ansP0 code) ∨
     ((o.kind = 5 ∨ o.kind = 6) ∧ p = ansP0 (unlinkC fs sl (walkS fs o.path (followsB o.kind)).ino a (o.kind == 6)) ∧ fs' = unlinkS fs sl (walkS fs o.path (followsB o.kind)).ino a (o.kind == 6)) ∨
     ((o.kind = 8 ∨ o.kind = 9 ∨ o.kind = 10 ∨ o.kind = 11 ∨ o.kind = 21) ∧ p = dataA a o ∧ fs' = dataFS fs (walkS fs o.path (followsB o.kind)).ino a o) ∨
     ((12 ≤ o.kind ∧ o.kind ≤ 20) ∧ NodeR fs (walkS fs o.path (followsB o.kind)).ino a o p fs')))))
def DoesEnds [Fence] (c : Nat) (w : World) (f b m : Nat) (fs : FS) (o : OpA) (e : Ending) (w' : World) : Prop:=
 ∃ (an : Ans) (p : AnsP) (fs' : FS) (own' : Int → Own),e = .returned an.val ∧ AnsIn w' w.heap.size an p ∧ DoesR fs o p fs' ∧ FlsB (c + 5000) w' f b m own' fs' ∧ KeepF w w'
/-- What is known of files that were opened. -/
structure FsOk (fs : FS) : Prop where
 right : RightFS fs
 good : GoodN fs
 names : namesOk fs
theorem FsOk.next {fs : FS} (h : FsOk fs) : 1 < fs.next:=by
 obtain ⟨h1,a,ha,_⟩:=h.right.rooted
 exact h1 1 a ha
theorem FsOk.check {fs : FS} (h : FsOk fs) {ino : Int} {a : NodeA} (ha : fs.N ino = some a) (hk : a.nd.kind ≠ 2) : checkP a.nd.size a.ps:=by
 have hf:=h.right.filled ino a ha
 obtain ⟨_,_,_,_,hg⟩:=h.good ino a ha
 rcases hg with ⟨h1,_⟩ | ⟨h1,_⟩ | ⟨h3,h4,_⟩
 ·exact hf.2 h1
 ·exact absurd h1 hk
 ·have:=hf.1 (by rw [h3]; decide)
  rw [this,h4]
  exact ⟨Int.le_refl _,by omega,trivial⟩
theorem FsOk.at_ {fs : FS} (h : FsOk fs) (hw : WfG fs) {p : ByteArray} {fo : Bool} (h0 : (walkS fs p fo).code = 0) (hi : (walkS fs p fo).ino ≠ 0) : ∃ a,fs.N (walkS fs p fo).ino = some a:=by
 obtain ⟨_,hk⟩:=walk_ok h.right hw p fo
 rcases hk h0 with ⟨_,_,hd⟩ | ⟨_,_,_,⟨_,he⟩ | he⟩
 ·obtain ⟨a,ha,_⟩:=hd.dir
  exact ⟨a,ha⟩
 ·exact absurd he hi
 ·obtain ⟨s,_,hs⟩:=slotAt_some he
  have:=(h.right.named s _ hs).2.2.1
  cases ha : fs.N (walkS fs p fo).ino with
  | none=>exact absurd ha this
  | some a=>exact ⟨a,rfl⟩
theorem FmEnds.to [Fence] {c : Nat} {w w' : World} {f b m : Nat} {fs : FS} {s : SlotK} {sino : Int} {nd : ND} {e : Ending} (h : FmEnds c w f b m fs s sino nd e w') : ∃ (an : Ans) (p : AnsP) (fs' : FS) (own' : Int → Own),e = .returned an.val ∧ AnsIn w' w.heap.size an p ∧ MakeR fs s sino nd p fs' ∧ FlsB (c + 2) w' f b m own' fs' ∧ KeepF w w':=by
 obtain ⟨code,ino',fs',own',he,hF,hk,hc⟩:=h
 refine ⟨_,{ ansP0 code with ino:=ino' },fs',own',he,⟨rfl,rfl,World.ownsRow_nil _ _ _ _,World.ownsRow_nil _ _ _ _,rfl,rfl⟩,?_,hF,hk⟩
 rcases hc with ⟨h1,rfl,rfl,rfl⟩ | ⟨h1,h2,rfl,rfl,rfl⟩ | ⟨h1,h2,h3,rfl,⟨rfl,h4⟩ | ⟨rfl,h4⟩⟩
 ·exact .inl ⟨h1,rfl,rfl⟩
 ·exact .inr (.inl ⟨h1,h2,rfl,rfl⟩)
 ·exact .inr (.inr ⟨h1,h2,h3,.inl ⟨rfl,h4⟩⟩)
 ·exact .inr (.inr ⟨h1,h2,h3,.inr ⟨rfl,h4⟩⟩)
end Go.Proofs.YtpboohfofodeeaaGreatDoor
/- files: does, its answer (conditions: none). -/
namespace Go.Proofs.YtpboohfofodeeaaGreatDoor
open Go.RowKit Go.Maps
theorem does_results {tm : Array Value} {W : World} {b : Nat} {a : Ans} (h2 : tm.getD 4 undef = .pointer (some ⟨b,0,none⟩)) (hB : Blk W b 36 a.cs) :
 (results Tryz.f30 tm).run Tryz.prog W = .ok a.val W:=by
 obtain ⟨c0,c1,c2,c3,c4,c5,c6,c7,c8,c9,c10⟩:=ans_cells hB
 unfold Ans.val Ans.cs
 clear hB
 rw [Array.getD_eq_getD_getElem?] at h2
 simp [results,Tryz.results30,go_sem, *]
theorem does_end [Fence] {c : Nat} {w W6 W7 : World} {f b m r : Nat} {own' : Int → Own} {fs fs' : FS} {o : OpA} {an : Ans} {p : AnsP} {cs : Array Value} (hA : Blk W6 r 36 cs) (hF : FlsB (c + 5000) W6 f b m own' fs') (hk : KeepF w W6) (hr : w.heap.size ≤ r) (hi : AnsIn W6 w.heap.size an p) (hN : DoesR fs o p fs') (h7 : Keep (fun i=>i = r) W6 W7) :
 DoesEnds c w f b m fs o (.returned an.val) W7:=⟨an,p,fs',own',rfl,hi.keep hA h7,hN,hF.ans_ hA h7,hk.own hr h7⟩
theorem AnsIn.base {w' : World} {base base' : Nat} {an : Ans} {p : AnsP} (h : AnsIn w' base an p) (hb : base' ≤ base) : AnsIn w' base' an p:=
 ⟨h.code,h.data,own_base h.names (fun k hk=>Nat.le_trans hb (h.names.lt k hk).1),own_base h.ranges (fun k hk=>Nat.le_trans hb (h.ranges.lt k hk).1),h.ino,h.nd⟩
end Go.Proofs.YtpboohfofodeeaaGreatDoor
/- law16: operations that are asked; are they great, or many (conditions: none). -/
namespace Go.Proofs.YtpboohfofodeeaaGreatDoor
open Go.RowKit Go.Maps
instance : Inhabited OpA:=⟨⟨0,⟨#[]⟩,⟨#[]⟩,⟨#[]⟩,0,0,⟨#[]⟩⟩⟩
def greatB (o : OpA) : Bool:=decide (1500 < o.path.size) || decide (1500 < o.dest.size) || decide (400 < o.name.size) || decide (5000 < o.data.size)
theorem great_no {o : OpA} (h : greatB o = false) : OpSmall o:=by
 unfold greatB at h
 simp only [Bool.or_eq_false_iff,decide_eq_false_iff_not] at h
 exact ⟨by omega,by omega,by omega,by omega⟩
def GreatEnds (w : World) (o : OpA) (e : Ending) (w' : World) : Prop:=e = .returned (.bool (greatB o)) ∧ Below w.heap.size w w'
set_option maxRecDepth 100000 in
set_option maxHeartbeats 4000000 in
theorem lw_great (o : OpA) (w : World) : Calls Tryz.prog 12 #[o.val] w (GreatEnds w o):=by
 have hb0 : Below w.heap.size w (w.alloc (.cells #[.int .i64 o.kind,.string o.path,.string o.dest,.string o.name,.int .i64 o.off,.int .i64 o.n,.string o.data] 24)):=(Below.refl _ _).alloc (Nat.le_refl _) _
 have HB:=Lib.hid hb0
 have HY : Hid (greatB o = true → GreatEnds w o (.returned (.bool true)) (w.alloc (.cells #[.int .i64 o.kind,.string o.path,.string o.dest,.string o.name,.int .i64 o.off,.int .i64 o.n,.string o.data] 24))):=Lib.hid fun h=>⟨by rw [h],hb0⟩
 have HN : Hid (greatB o = false → GreatEnds w o (.returned (.bool false)) (w.alloc (.cells #[.int .i64 o.kind,.string o.path,.string o.dest,.string o.name,.int .i64 o.off,.int .i64 o.n,.string o.data] 24))):=Lib.hid fun h=>⟨by rw [h],hb0⟩
 have HG : Hid (greatB o = (decide (1500 < o.path.size) || decide (1500 < o.dest.size) || decide (400 < o.name.size) || decide (5000 < o.data.size))):=Lib.hid rfl
 unfold OpA.val OpA.cs
 clear hb0
 by_cases h1 : (1500 : Int) < (o.path.size : Int)
 ·have hy:=HY.out (by rw [HG.out]; simp; omega)
  clear HY HN HG
  go_enter Tryz.func12,Tryz.ntmps12
  go_wp2
  go_ret
  exact hy
 ·by_cases h2 : (1500 : Int) < (o.dest.size : Int)
  ·have hy:=HY.out (by rw [HG.out]; simp; omega)
   clear HY HN HG
   go_enter Tryz.func12,Tryz.ntmps12
   go_wp2
   go_ret
   exact hy
  ·by_cases h3 : (400 : Int) < (o.name.size : Int)
   ·have hy:=HY.out (by rw [HG.out]; simp; omega)
    clear HY HN HG
    go_enter Tryz.func12,Tryz.ntmps12
    go_wp2
    go_ret
    exact hy
   ·by_cases h4 : (5000 : Int) < (o.data.size : Int)
    ·have hy:=HY.out (by rw [HG.out]; simp; omega)
     clear HY HN HG
     go_enter Tryz.func12,Tryz.ntmps12
     go_wp2
     go_ret
     exact hy
    ·have hy:=HN.out (by rw [HG.out]; simp; omega)
     clear HY HN HG
     go_enter Tryz.func12,Tryz.ntmps12
     go_wp2
     go_ret
     exact hy
end Go.Proofs.YtpboohfofodeeaaGreatDoor
