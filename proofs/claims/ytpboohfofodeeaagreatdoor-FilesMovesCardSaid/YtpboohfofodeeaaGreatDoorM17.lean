/- api.Answer in memory (conditions: none). -/
import Derived.Test.YtpboohfofodeeaaGreatDoorM16
import Derived.Test.YtpboohfofodeeaaGreatDoorM13
namespace Go.Proofs.YtpboohfofodeeaaGreatDoor
open Go.RowKit Go.Maps
/-- An answer's cells: the lists as slices. -/
structure Ans where
 code : Int
 data : ByteArray
 names : Value
 ranges : Value
 ino : Int
 nd : ND
def Ans.cs (a : Ans) : Array Value:=#[.int .i64 a.code,.string a.data,a.names,a.ranges,.int .i64 a.ino,.int .i64 a.nd.kind,.int .i64 a.nd.mode,.int .i64 a.nd.time,.int .i64 a.nd.links,.int .i64 a.nd.size,.string a.nd.target]
def Ans.val (a : Ans) : Value:=.agg a.cs
def ans0 : Ans:=⟨0,⟨#[]⟩,.slice none 0 0,.slice none 0 0,0,zeroND⟩
def ansC (code : Int) : Ans:={ ans0 with code:=code }
theorem ans_cells {w : World} {b : Nat} {t : TypeId} {a : Ans} (h : Blk w b t a.cs) : w.cell? ⟨b,0,none⟩ = some (.int .i64 a.code) ∧ w.cell? ⟨b,1,none⟩ = some (.string a.data) ∧ w.cell? ⟨b,2,none⟩ = some a.names ∧ w.cell? ⟨b,3,none⟩ = some a.ranges ∧ w.cell? ⟨b,4,none⟩ = some (.int .i64 a.ino) ∧ w.cell? ⟨b,5,none⟩ = some (.int .i64 a.nd.kind) ∧ w.cell? ⟨b,6,none⟩ = some (.int .i64 a.nd.mode) ∧ w.cell? ⟨b,7,none⟩ = some (.int .i64 a.nd.time) ∧ w.cell? ⟨b,8,none⟩ = some (.int .i64 a.nd.links) ∧ w.cell? ⟨b,9,none⟩ = some (.int .i64 a.nd.size) ∧ w.cell? ⟨b,10,none⟩ = some (.string a.nd.target):=
 ⟨h.cell 0,h.cell 1,h.cell 2,h.cell 3,h.cell 4,h.cell 5,h.cell 6,h.cell 7,h.cell 8,h.cell 9,h.cell 10⟩
theorem ans_frozen {w : World} {b : Nat} {t : TypeId} {cs : Array Value} (h : Blk w b t cs) : w.frozen? ⟨b,0,none⟩ = false ∧ w.frozen? ⟨b,1,none⟩ = false ∧ w.frozen? ⟨b,2,none⟩ = false ∧ w.frozen? ⟨b,3,none⟩ = false ∧ w.frozen? ⟨b,4,none⟩ = false ∧ w.frozen? ⟨b,5,none⟩ = false ∧ w.frozen? ⟨b,6,none⟩ = false ∧ w.frozen? ⟨b,7,none⟩ = false ∧ w.frozen? ⟨b,8,none⟩ = false ∧ w.frozen? ⟨b,9,none⟩ = false ∧ w.frozen? ⟨b,10,none⟩ = false:=
 ⟨h.frozen 0,h.frozen 1,h.frozen 2,h.frozen 3,h.frozen 4,h.frozen 5,h.frozen 6,h.frozen 7,h.frozen 8,h.frozen 9,h.frozen 10⟩
/-- An answer stored whole. -/
def ansSet (w : World) (b : Nat) (x0 x1 x2 x3 x4 x5 x6 x7 x8 x9 x10 : Value) : World:=((((((((((w.setCell ⟨b,0,none⟩ x0).setCell ⟨b,1,none⟩ x1).setCell ⟨b,2,none⟩ x2).setCell ⟨b,3,none⟩ x3).setCell ⟨b,4,none⟩ x4).setCell ⟨b,5,none⟩ x5).setCell ⟨b,6,none⟩ x6).setCell ⟨b,7,none⟩ x7).setCell ⟨b,8,none⟩ x8).setCell ⟨b,9,none⟩ x9).setCell ⟨b,10,none⟩ x10
theorem ans_set {w : World} {b : Nat} {t : TypeId} {a a' : Ans} (h : Blk w b t a.cs) : Blk (ansSet w b (.int .i64 a'.code) (.string a'.data) a'.names a'.ranges (.int .i64 a'.ino) (.int .i64 a'.nd.kind) (.int .i64 a'.nd.mode) (.int .i64 a'.nd.time) (.int .i64 a'.nd.links) (.int .i64 a'.nd.size) (.string a'.nd.target)) b t a'.cs:=by
 have h1:=(((((((((((h.set_ 0 (.int .i64 a'.code)).set_ 1 (.string a'.data)).set_ 2 a'.names).set_ 3 a'.ranges).set_ 4 (.int .i64 a'.ino)).set_ 5 (.int .i64 a'.nd.kind)).set_ 6 (.int .i64 a'.nd.mode)).set_ 7 (.int .i64 a'.nd.time)).set_ 8 (.int .i64 a'.nd.links)).set_ 9 (.int .i64 a'.nd.size)).set_ 10 (.string a'.nd.target))
 unfold ansSet
 unfold Ans.cs at h1 ⊢
 simpa using h1
theorem ans_keep {w : World} {b : Nat} {x0 x1 x2 x3 x4 x5 x6 x7 x8 x9 x10 : Value} : Keep (fun i=>i = b) w (ansSet w b x0 x1 x2 x3 x4 x5 x6 x7 x8 x9 x10):=
 keep_set (keep_set (keep_set (keep_set (keep_set (keep_set (keep_set (keep_set (keep_set (keep_set (keep_set (Keep.refl _ w) 0 _) 1 _) 2 _) 3 _) 4 _) 5 _) 6 _) 7 _) 8 _) 9 _) 10 _
/-- The answer's own block is none of the files'. -/
theorem FlsB.ans_ [Fence] {c : Nat} {w w' : World} {f b m r : Nat} {own : Int → Own} {fs : FS} (h : FlsB c w f b m own fs) {cs : Array Value} (hr : Blk w r 36 cs) (hk : Keep (fun i=>i = r) w w') : FlsB c w' f b m own fs:=by
 obtain ⟨n1,x1,y1⟩:=h.nodes
 obtain ⟨n2,x2,y2⟩:=h.names
 refine ⟨h.blk.keep hk (Blk.ne_ h.blk hr (by decide)),⟨n1,x1,y1.keep hk (fun e=>y1.blk_ne hr e)⟩,⟨n2,x2,y2.keep hk (fun e=>y2.blk_ne hr e)⟩,fun k a e=>?_,h.apart,h.ne,h.wf,h.lo⟩
 have hn:=h.node k a e
 obtain ⟨an,x,y⟩:=hn.att
 exact hn.keep hk (hn.blk.ne_ hr (by decide)) (fun e=>y.blk_ne hr e) (fun g cs hg=>Blk.ne_ hg hr (by decide))
theorem make_results {tm : Array Value} {W : World} {b : Nat} {a : Ans} (h2 : tm.getD 6 undef = .pointer (some ⟨b,0,none⟩)) (hB : Blk W b 36 a.cs) :
 (results Tryz.f54 tm).run Tryz.prog W = .ok a.val W:=by
 obtain ⟨c0,c1,c2,c3,c4,c5,c6,c7,c8,c9,c10⟩:=ans_cells hB
 unfold Ans.val Ans.cs
 clear hB
 rw [Array.getD_eq_getD_getElem?] at h2
 simp [results,Tryz.results54,go_sem, *]
end Go.Proofs.YtpboohfofodeeaaGreatDoor
/- files: make (conditions: none). -/
namespace Go.Proofs.YtpboohfofodeeaaGreatDoor
open Go.RowKit Go.Maps
theorem KeepF.own [Fence] {a b c : World} (h : KeepF a b) {r : Nat} (hr : a.heap.size ≤ r) (hk : Keep (fun i=>i = r) b c) : KeepF a c:=Keep.trans h hk (fun i hi e=>by omega)
/-- A block of another type is written. -/
theorem FlsB.blk_ [Fence] {c : Nat} {w w' : World} {f b m r : Nat} {own : Int → Own} {fs : FS} (h : FlsB c w f b m own fs) {t : TypeId} {cs : Array Value} (hr : Blk w r t cs) (h1 : 91 ≠ t) (h2 : 135 ≠ t) (h3 : 111 ≠ t) (hk : Keep (fun i=>i = r) w w') : FlsB c w' f b m own fs:=by
 obtain ⟨n1,x1,y1⟩:=h.nodes
 obtain ⟨n2,x2,y2⟩:=h.names
 refine ⟨h.blk.keep hk (Blk.ne_ h.blk hr h1),⟨n1,x1,y1.keep hk (fun e=>y1.blk_ne hr e)⟩,⟨n2,x2,y2.keep hk (fun e=>y2.blk_ne hr e)⟩,fun k a e=>?_,h.apart,h.ne,h.wf,h.lo⟩
 have hn:=h.node k a e
 obtain ⟨an,x,y⟩:=hn.att
 exact hn.keep hk (hn.blk.ne_ hr h2) (fun e=>y.blk_ne hr e) (fun g cs hg=>Blk.ne_ hg hr h3)
noncomputable def makeS (fs : FS) (s : SlotK) (nd : ND) : FS:=putG { fs with N:=upd fs.N fs.next ⟨{ nd with links:=1 },[],fun _=>none⟩,next:=fs.next + 1 } s fs.next
def FmEnds [Fence] (c : Nat) (w : World) (f b m : Nat) (fs : FS) (s : SlotK) (sino : Int) (nd : ND) (e : Ending) (w' : World) : Prop:=
 ∃ (code ino' : Int) (fs' : FS) (own' : Int → Own),e = .returned (Ans.val { ansC code with ino:=ino' }) ∧ FlsB (c + 2) w' f b m own' fs' ∧ KeepF w w' ∧
  ((sino ≠ 0 ∧ code = 161 ∧ fs' = fs ∧ ino' = 0) ∨ (sino = 0 ∧ 1099511627776 < fs.next ∧ code = 169 ∧ fs' = fs ∧ ino' = 0) ∨ (sino = 0 ∧ fs.next ≤ 1099511627776 ∧ fs' = makeS fs s nd ∧ ino' = fs.next ∧ ((code = 120 ∧ longS fs') ∨ (code = 0 ∧ ¬ longS fs'))))
set_option maxRecDepth 100000 in
set_option maxHeartbeats 8000000 in
theorem fw_make [Fence] {c : Nat} {w : World} {f b m : Nat} {own : Int → Own} {fs : FS} (h : FlsB c w f b m own fs) (hn : namesOk fs) (sl : SlotK) (hsl : sl.1.2.size ≤ 255) (sino : Int) (nd : ND) (hnx : 0 ≤ fs.next) (hc : c + 2 < 1099511627776) :
 Calls Tryz.prog 54 #[wkV f,spotC sl.1.1 sl.1.2 sino,nd.val] w (FmEnds c w f b m fs sl sino nd):=by
 have hb0 : Below w.heap.size w ((((w.alloc (.cells #[Pa f] 78)).alloc (.cells #[.int .i64 sl.1.1,.string sl.1.2,.int .i64 sino] 119)).alloc (.cells nd.cs 34)).alloc (.cells ans0.cs 36)):=((((Below.refl _ _).alloc (Nat.le_refl _) _).alloc (by simp) _).alloc (by simp; omega) _).alloc (by simp; omega) _
 have hF:=h.below hb0
 have e1 : (w.alloc (.cells #[Pa f] 78)).heap.size = w.heap.size + 1:=by simp
 have e2 : ((w.alloc (.cells #[Pa f] 78)).alloc (.cells #[.int .i64 sl.1.1,.string sl.1.2,.int .i64 sino] 119)).heap.size = w.heap.size + 1 + 1:=by simp
 have e3 : (((w.alloc (.cells #[Pa f] 78)).alloc (.cells #[.int .i64 sl.1.1,.string sl.1.2,.int .i64 sino] 119)).alloc (.cells nd.cs 34)).heap.size = w.heap.size + 1 + 1 + 1:=by simp
 have hW:=(((Blk.new w 78 #[Pa f]).alloc (.cells #[.int .i64 sl.1.1,.string sl.1.2,.int .i64 sino] 119)).alloc (.cells nd.cs 34)).alloc (.cells ans0.cs 36)
 have hS:=((Blk.new (w.alloc (.cells #[Pa f] 78)) 119 #[.int .i64 sl.1.1,.string sl.1.2,.int .i64 sino]).alloc (.cells nd.cs 34)).alloc (.cells ans0.cs 36)
 have hD:=(Blk.new ((w.alloc (.cells #[Pa f] 78)).alloc (.cells #[.int .i64 sl.1.1,.string sl.1.2,.int .i64 sino] 119)) 34 nd.cs).alloc (.cells ans0.cs 36)
 have hA:=Blk.new (((w.alloc (.cells #[Pa f] 78)).alloc (.cells #[.int .i64 sl.1.1,.string sl.1.2,.int .i64 sino] 119)).alloc (.cells nd.cs 34)) 36 ans0.cs
 rw [e1] at hS
 rw [e2] at hD
 rw [e3] at hA
 have HB0:=Lib.hid hb0
 have hv : nd.val = .agg #[.int .i64 nd.kind,.int .i64 nd.mode,.int .i64 nd.time,.int .i64 nd.links,.int .i64 nd.size,.string nd.target]:=rfl
 rw [hv]
 unfold wkV spotC
 clear h hb0 e1 e2 e3 hv
 go_enter Tryz.func54,Tryz.ntmps54
 go_upto_region 1 with fail
 change FlsB c ((((w.alloc (.cells #[Pa f] 78)).alloc (.cells #[.int .i64 sl.1.1,.string sl.1.2,.int .i64 sino] 119)).alloc (.cells #[.int .i64 nd.kind,.int .i64 nd.mode,.int .i64 nd.time,.int .i64 nd.links,.int .i64 nd.size,.string nd.target] 34)).alloc (.cells #[.int .i64 0,.string ⟨#[]⟩,.slice none 0 0,.slice none 0 0,.int .i64 0,.int .i64 0,.int .i64 0,.int .i64 0,.int .i64 0,.int .i64 0,.string ⟨#[]⟩] 36)) f b m own fs at hF
 change Blk ((((w.alloc (.cells #[Pa f] 78)).alloc (.cells #[.int .i64 sl.1.1,.string sl.1.2,.int .i64 sino] 119)).alloc (.cells #[.int .i64 nd.kind,.int .i64 nd.mode,.int .i64 nd.time,.int .i64 nd.links,.int .i64 nd.size,.string nd.target] 34)).alloc (.cells #[.int .i64 0,.string ⟨#[]⟩,.slice none 0 0,.slice none 0 0,.int .i64 0,.int .i64 0,.int .i64 0,.int .i64 0,.int .i64 0,.int .i64 0,.string ⟨#[]⟩] 36)) w.heap.size 78 #[Pa f] at hW
 change Blk ((((w.alloc (.cells #[Pa f] 78)).alloc (.cells #[.int .i64 sl.1.1,.string sl.1.2,.int .i64 sino] 119)).alloc (.cells #[.int .i64 nd.kind,.int .i64 nd.mode,.int .i64 nd.time,.int .i64 nd.links,.int .i64 nd.size,.string nd.target] 34)).alloc (.cells #[.int .i64 0,.string ⟨#[]⟩,.slice none 0 0,.slice none 0 0,.int .i64 0,.int .i64 0,.int .i64 0,.int .i64 0,.int .i64 0,.int .i64 0,.string ⟨#[]⟩] 36)) (w.heap.size + 1) 119 #[.int .i64 sl.1.1,.string sl.1.2,.int .i64 sino] at hS
 change Blk ((((w.alloc (.cells #[Pa f] 78)).alloc (.cells #[.int .i64 sl.1.1,.string sl.1.2,.int .i64 sino] 119)).alloc (.cells #[.int .i64 nd.kind,.int .i64 nd.mode,.int .i64 nd.time,.int .i64 nd.links,.int .i64 nd.size,.string nd.target] 34)).alloc (.cells #[.int .i64 0,.string ⟨#[]⟩,.slice none 0 0,.slice none 0 0,.int .i64 0,.int .i64 0,.int .i64 0,.int .i64 0,.int .i64 0,.int .i64 0,.string ⟨#[]⟩] 36)) (w.heap.size + 1 + 1) 34 #[.int .i64 nd.kind,.int .i64 nd.mode,.int .i64 nd.time,.int .i64 nd.links,.int .i64 nd.size,.string nd.target] at hD
 change Blk ((((w.alloc (.cells #[Pa f] 78)).alloc (.cells #[.int .i64 sl.1.1,.string sl.1.2,.int .i64 sino] 119)).alloc (.cells #[.int .i64 nd.kind,.int .i64 nd.mode,.int .i64 nd.time,.int .i64 nd.links,.int .i64 nd.size,.string nd.target] 34)).alloc (.cells #[.int .i64 0,.string ⟨#[]⟩,.slice none 0 0,.slice none 0 0,.int .i64 0,.int .i64 0,.int .i64 0,.int .i64 0,.int .i64 0,.int .i64 0,.string ⟨#[]⟩] 36)) (w.heap.size + 1 + 1 + 1) 36 ans0.cs at hA
 have HBw : Hid (Below w.heap.size w ((((w.alloc (.cells #[Pa f] 78)).alloc (.cells #[.int .i64 sl.1.1,.string sl.1.2,.int .i64 sino] 119)).alloc (.cells #[.int .i64 nd.kind,.int .i64 nd.mode,.int .i64 nd.time,.int .i64 nd.links,.int .i64 nd.size,.string nd.target] 34)).alloc (.cells #[.int .i64 0,.string ⟨#[]⟩,.slice none 0 0,.slice none 0 0,.int .i64 0,.int .i64 0,.int .i64 0,.int .i64 0,.int .i64 0,.int .i64 0,.string ⟨#[]⟩] 36))):=HB0
 clear HB0
 generalize (((w.alloc (.cells #[Pa f] 78)).alloc (.cells #[.int .i64 sl.1.1,.string sl.1.2,.int .i64 sino] 119)).alloc (.cells #[.int .i64 nd.kind,.int .i64 nd.mode,.int .i64 nd.time,.int .i64 nd.links,.int .i64 nd.size,.string nd.target] 34)).alloc (.cells #[.int .i64 0,.string ⟨#[]⟩,.slice none 0 0,.slice none 0 0,.int .i64 0,.int .i64 0,.int .i64 0,.int .i64 0,.int .i64 0,.int .i64 0,.string ⟨#[]⟩] 36) = w1 at *
 have s2 : w1.cell? ⟨w.heap.size + 1,2,none⟩ = some (.int .i64 sino):=hS.cell 2
 have d0 : w1.cell? ⟨w.heap.size,0,none⟩ = some (Pa f):=hW.cell 0
 have dn : w1.cell? ⟨f,0,none⟩ = some (.int .i64 fs.next):=hF.blk.cell 0
 obtain ⟨z0,z1,z2,z3,z4,z5,z6,z7,z8,z9,z10⟩:=ans_cells hA
 obtain ⟨r0,r1,r2,r3,r4,r5,r6,r7,r8,r9,r10⟩:=ans_frozen hA
 simp only [ans0,zeroND] at z0 z1 z2 z3 z4 z5 z6 z7 z8 z9 z10
 have HF:=Lib.hid hF
 have HW:=Lib.hid hW
 have HS:=Lib.hid hS
 have HD:=Lib.hid hD
 have HA:=Lib.hid hA
 clear hF hW hS hD hA
 by_cases h0 : sino = 0
 ·subst h0
  by_cases hfull : 1099511627776 < fs.next
  ·go_wp2
   have hs:=ans_set (a':=ansC 169) HA.out
   refine bodyPost_ret (v:=Ans.val (ansC 169)) ?_ rfl ?_
   ·exact make_results rfl hs
   ·exact ⟨169,0,fs,own,rfl,(HF.out.ans_ HA.out ans_keep).more (by omega),(KeepF.of_below HBw.out).own (by omega) ans_keep,.inr (.inl ⟨rfl,hfull,rfl,rfl,rfl⟩)⟩
  ·have hfull' : fs.next ≤ 1099511627776:=by omega
   obtain ⟨i0,i1,i2,i3,i4,i5⟩ : w1.cell? ⟨w.heap.size + 1 + 1,0,none⟩ = some (.int .i64 nd.kind) ∧ w1.cell? ⟨w.heap.size + 1 + 1,1,none⟩ = some (.int .i64 nd.mode) ∧ w1.cell? ⟨w.heap.size + 1 + 1,2,none⟩ = some (.int .i64 nd.time) ∧ w1.cell? ⟨w.heap.size + 1 + 1,3,none⟩ = some (.int .i64 nd.links) ∧ w1.cell? ⟨w.heap.size + 1 + 1,4,none⟩ = some (.int .i64 nd.size) ∧ w1.cell? ⟨w.heap.size + 1 + 1,5,none⟩ = some (.string nd.target):=⟨HD.out.cell 0,HD.out.cell 1,HD.out.cell 2,HD.out.cell 3,HD.out.cell 4,HD.out.cell 5⟩
   have fr3:=HD.out.frozen 3
   have hk2 : Keep (fun i=>i = w.heap.size + 1 + 1) w1 (w1.setCell ⟨w.heap.size + 1 + 1,3,none⟩ (.int .i64 1)):=keep_set (Keep.refl _ w1) 3 _
   have hF2:=HF.out.blk_ HD.out (by decide) (by decide) (by decide) hk2
   have hW2:=HW.out.keep hk2 (by omega)
   have hS2:=HS.out.keep hk2 (by omega)
   have hA2:=HA.out.keep hk2 (by omega)
   have hD2 : Blk (w1.setCell ⟨w.heap.size + 1 + 1,3,none⟩ (.int .i64 1)) (w.heap.size + 1 + 1) 34 #[.int .i64 nd.kind,.int .i64 nd.mode,.int .i64 nd.time,.int .i64 1,.int .i64 nd.size,.string nd.target]:=HD.out.set_ 3 _
   have hKF2:=(KeepF.of_below HBw.out).own (by omega) hk2
   go_upto_region 7 with fail
   clear z0 z1 z2 z3 z4 z5 z6 z7 z8 z9 z10 r0 r1 r2 r3 r4 r5 r6 r7 r8 r9 r10 i0 i1 i2 i3 i4 i5 s2 d0 dn hk2
   generalize w1.setCell ⟨w.heap.size + 1 + 1,3,none⟩ (.int .i64 1) = w2 at *
   have d0 : w2.cell? ⟨w.heap.size,0,none⟩ = some (Pa f):=hW2.cell 0
   have d1 : w2.cell? ⟨f,1,none⟩ = some (.map (some b)):=hF2.blk.cell 1
   obtain ⟨i0,i1,i2,i3,i4,i5⟩ : w2.cell? ⟨w.heap.size + 1 + 1,0,none⟩ = some (.int .i64 nd.kind) ∧ w2.cell? ⟨w.heap.size + 1 + 1,1,none⟩ = some (.int .i64 nd.mode) ∧ w2.cell? ⟨w.heap.size + 1 + 1,2,none⟩ = some (.int .i64 nd.time) ∧ w2.cell? ⟨w.heap.size + 1 + 1,3,none⟩ = some (.int .i64 1) ∧ w2.cell? ⟨w.heap.size + 1 + 1,4,none⟩ = some (.int .i64 nd.size) ∧ w2.cell? ⟨w.heap.size + 1 + 1,5,none⟩ = some (.string nd.target):=⟨hD2.cell 0,hD2.cell 1,hD2.cell 2,hD2.cell 3,hD2.cell 4,hD2.cell 5⟩
   have l0 : w.heap.size < w2.heap.size:=hW2.lt
   have l1 : f < w2.heap.size:=hF2.blk.lt
   have l2 : w.heap.size + 1 + 1 < w2.heap.size:=hD2.lt
   have hbV : Below w2.heap.size w2 ((w2.drew.alloc (.map #[] 0)).alloc (.cells (nodeC { nd with links:=1 } (.slice none 0 0) w2.heap.size) 135)):=(((Below.refl w2.heap.size w2).drew).alloc (Nat.le_refl _) _).alloc (by simp) _
   have hwf : (Lit.int .i64 fs.next).wf = true:=WalkArith.wf_i64 (by omega)
   have hFV:=hF2.below hbV
   obtain ⟨n1,x1,y1⟩:=hFV.nodes
   obtain ⟨w6,hrun,hm6,hk6,hs6⟩:=y1.store Tryz.underlying3 Tryz.underlying88 (by unfold maxLen; omega) fs.next hwf (ptrG (w2.heap.size + 1))
   have hrun2 : (Instr.mapUpdate 88 (.map (some b)) (.int .i64 fs.next) (.pointer (some ⟨w2.heap.size + 1,0,none⟩))).run Tryz.prog (((w2.alloc (.map #[] 0)).alloc (.cells #[.int .i64 nd.kind,.int .i64 nd.mode,.int .i64 nd.time,.int .i64 1,.int .i64 nd.size,.string nd.target,.slice none 0 0,.map (some w2.heap.size)] 135)).drew) = .ok () w6:=hrun
   have hmm:=@run_makeMap Tryz.prog
   have hNO : NodeO c ((w2.drew.alloc (.map #[] 0)).alloc (.cells (nodeC { nd with links:=1 } (.slice none 0 0) w2.heap.size) 135)) ⟨w2.heap.size + 1,w2.heap.size,.slice none 0 0⟩ ⟨{ nd with links:=1 },[],fun _=>none⟩:=by
    have hbl:=Blk.new (w2.drew.alloc (.map #[] 0)) 135 (nodeC { nd with links:=1 } (.slice none 0 0) w2.heap.size)
    rw [show (w2.drew.alloc (.map #[] 0)).heap.size = w2.heap.size + 1 by simp] at hbl
    exact ⟨hbl,⟨none,0,rfl,⟨rfl,fun h=>by cases h⟩,Nat.le_refl _,fun g o h=>by cases h⟩,Nat.zero_le _,⟨0,Nat.zero_le _,((MapK.made litS Tryz.prog 9 w2.drew).alloc _).congr (fun _=>rfl)⟩⟩
   have hq:=hF2.put_ hbV fs.next ⟨w2.heap.size + 1,w2.heap.size,.slice none 0 0⟩ ⟨{ nd with links:=1 },[],fun _=>none⟩ (by simp only; omega) (Nat.le_refl _) hNO hk6 (n:=if ((fs.N fs.next).map fun _=>ptrG (own fs.next).g).isSome = true then n1 else n1 + 1) (by split <;> omega) (by rw [← nodesF_upd]; exact hm6)
   have hW6:=KeepF.blk hq.2 hW2 (by decide) (by decide)
   have hS6:=KeepF.blk hq.2 hS2 (by decide) (by decide)
   have hD6:=KeepF.blk hq.2 hD2 (by decide) (by decide)
   have hA6:=KeepF.blk hq.2 hA2 (by decide) (by decide)
   have q0 : w6.cell? ⟨w.heap.size,0,none⟩ = some (Pa f):=hW6.cell 0
   have q1 : w6.cell? ⟨f,1,none⟩ = some (.map (some b)):=hq.1.blk.cell 1
   obtain ⟨j0,j1,j2,j3,j4,j5⟩ : w6.cell? ⟨w.heap.size + 1 + 1,0,none⟩ = some (.int .i64 nd.kind) ∧ w6.cell? ⟨w.heap.size + 1 + 1,1,none⟩ = some (.int .i64 nd.mode) ∧ w6.cell? ⟨w.heap.size + 1 + 1,2,none⟩ = some (.int .i64 nd.time) ∧ w6.cell? ⟨w.heap.size + 1 + 1,3,none⟩ = some (.int .i64 1) ∧ w6.cell? ⟨w.heap.size + 1 + 1,4,none⟩ = some (.int .i64 nd.size) ∧ w6.cell? ⟨w.heap.size + 1 + 1,5,none⟩ = some (.string nd.target):=⟨hD6.cell 0,hD6.cell 1,hD6.cell 2,hD6.cell 3,hD6.cell 4,hD6.cell 5⟩
   have HQ:=Lib.hid hq.1
   have HKF:=Lib.hid (hKF2.trans hq.2)
   have HW6:=Lib.hid hW6
   have HS6:=Lib.hid hS6
   have HA6:=Lib.hid hA6
   clear hF2 hW2 hS2 hD2 hA2 hKF2 hbV hFV y1 hrun hm6 hk6 hs6 hNO hq hW6 hS6 hD6 hA6
   go_region_held3 (fun w'=>w'.cell? ⟨w.heap.size,0,none⟩ = some (Pa f) ∧ w'.cell? ⟨f,1,none⟩ = some (.map (some b)) ∧ w'.cell? ⟨w.heap.size + 1 + 1,0,none⟩ = some (.int .i64 nd.kind) ∧ w'.cell? ⟨w.heap.size + 1 + 1,1,none⟩ = some (.int .i64 nd.mode) ∧ w'.cell? ⟨w.heap.size + 1 + 1,2,none⟩ = some (.int .i64 nd.time) ∧ w'.cell? ⟨w.heap.size + 1 + 1,3,none⟩ = some (.int .i64 1) ∧ w'.cell? ⟨w.heap.size + 1 + 1,4,none⟩ = some (.int .i64 nd.size) ∧ w'.cell? ⟨w.heap.size + 1 + 1,5,none⟩ = some (.string nd.target)) (go_keep) (fail)
   clear hrun2 hmm d0 d1 i0 i1 i2 i3 i4 i5 j0 j1 j2 j3 j4 j5 fr3
   have hnx7:=HQ.out.next_ (fs.next + 1)
   have g0 : w6.cell? ⟨f,0,none⟩ = some (.int .i64 fs.next):=HQ.out.blk.cell 0
   have fr0:=HQ.out.blk.frozen 0
   have hwr : IntKind.i64.wrap (fs.next + 1) = fs.next + 1:=by rw [IntKind.wrap_i64]; omega
   have hW7:=KeepF.blk hnx7.2 HW6.out (by decide) (by decide)
   have hS7:=KeepF.blk hnx7.2 HS6.out (by decide) (by decide)
   have hA7:=KeepF.blk hnx7.2 HA6.out (by decide) (by decide)
   have t0 : (w6.setCell ⟨f,0,none⟩ (.int .i64 (fs.next + 1))).cell? ⟨w.heap.size,0,none⟩ = some (Pa f):=hW7.cell 0
   have t1 : (w6.setCell ⟨f,0,none⟩ (.int .i64 (fs.next + 1))).cell? ⟨w.heap.size + 1,0,none⟩ = some (.int .i64 sl.1.1):=hS7.cell 0
   have t2 : (w6.setCell ⟨f,0,none⟩ (.int .i64 (fs.next + 1))).cell? ⟨w.heap.size + 1,1,none⟩ = some (.string sl.1.2):=hS7.cell 1
   have hP:=Lib.hid (fw_put hnx7.1 hn sl hsl fs.next hwf (by omega))
   unfold wkV slotV at hP
   have HKF7:=Lib.hid (HKF.out.trans hnx7.2)
   have HA7:=Lib.hid hA7
   clear hnx7 hW7 hS7 hA7
   go_wp2_with (
    go_at_call 106
    refine hP.out.mono ?_
    rintro e w8 ⟨⟨er,rfl,hcase⟩,hF8,hKF8⟩
    have hA8:=KeepF.blk hKF8 HA7.out (by decide) (by decide)
    obtain ⟨z0,z1,z2,z3,z4,z5,z6,z7,z8,z9,z10⟩:=ans_cells hA8
    obtain ⟨r0,r1,r2,r3,r4,r5,r6,r7,r8,r9,r10⟩:=ans_frozen hA8
    simp only [ans0,zeroND] at z0 z1 z2 z3 z4 z5 z6 z7 z8 z9 z10
    have HC8:=Lib.hid hcase
    have HF8:=Lib.hid hF8
    have HKF8:=Lib.hid hKF8
    have HA8:=Lib.hid hA8
    clear hcase hF8 hKF8 hA8)
   have hs:=ans_set (a':={ ansC er with ino:=fs.next }) HA8.out
   refine bodyPost_ret (v:=Ans.val { ansC er with ino:=fs.next }) ?_ rfl ?_
   ·exact make_results rfl hs
   ·exact ⟨er,fs.next,makeS fs sl nd,_,rfl,HF8.out.ans_ HA8.out ans_keep,(HKF7.out.trans HKF8.out).own (by omega) ans_keep,.inr (.inr ⟨rfl,hfull',rfl,rfl,HC8.out⟩)⟩
 ·have h0' : (sino != 0) = true:=by simpa using h0
  go_wp2
  have hs:=ans_set (a':=ansC 161) HA.out
  refine bodyPost_ret (v:=Ans.val (ansC 161)) ?_ rfl ?_
  ·exact make_results rfl hs
  ·exact ⟨161,0,fs,own,rfl,(HF.out.ans_ HA.out ans_keep).more (by omega),(KeepF.of_below HBw.out).own (by omega) ans_keep,.inl ⟨h0,rfl,rfl,rfl⟩⟩
end Go.Proofs.YtpboohfofodeeaaGreatDoor
/- files: walk, what it tells (conditions: none). -/
namespace Go.Proofs.YtpboohfofodeeaaGreatDoor
open Go.RowKit Go.Maps
/-- Inodes are right. -/
def GoodN (fs : FS) : Prop:=∀ k a,fs.N k = some a → a.nd.right
open Classical in
noncomputable def aboveF (G : SlotK → Option Int) (dir : Int) : Int:=if h : ∃ s,G s = some dir then (Classical.choose h).1.1 else dir
def isDir (fs : FS) (d : Int) : Prop:=∃ a,fs.N d = some a ∧ a.nd.kind = 2
theorem dir_once {fs : FS} (hR : RightFS fs) (hG : GoodN fs) {d : Int} (hd : isDir fs d) {s t : SlotK} (hs : fs.G s = some d) (ht : fs.G t = some d) : s = t:=by
 obtain ⟨a,ha,hk⟩:=hd
 obtain ⟨H,h1,h2⟩:=hR.linked
 have hn1 : d ≠ 1:=(hR.named s d hs).2.1
 have hl:=(h2 d a ha).1 hn1
 have hr:=hG d a ha
 have hl1 : a.nd.links = 1:=by
  unfold ND.right at hr
  omega
 rw [hl1] at hl
 have hs':=((h1 d).2.1 s).2 hs
 have ht':=((h1 d).2.1 t).2 ht
 obtain ⟨x,hx⟩:=List.length_eq_one_iff.1 (by omega : (H d).length = 1)
 rw [hx] at hs' ht'
 rw [List.mem_singleton.1 hs',List.mem_singleton.1 ht']
theorem above_det {fs : FS} (hR : RightFS fs) (hG : GoodN fs) {d r : Int} (hd : isDir fs d) (h : AboveP fs.G d r) : r = aboveF fs.G d:=by
 unfold aboveF
 rcases h with ⟨s,hs,rfl⟩ | ⟨hno,rfl⟩
 ·have he : ∃ s,fs.G s = some d:=⟨s,hs⟩
  rw [dif_pos he,dir_once hR hG hd hs (Classical.choose_spec he)]
 ·rw [dif_neg (fun ⟨s,hs⟩=>hno s hs)]
theorem above_dir {fs : FS} (hR : RightFS fs) {d : Int} (hd : isDir fs d) : isDir fs (aboveF fs.G d):=by
 unfold aboveF
 split
 ·rename_i h
  exact (hR.named _ _ (Classical.choose_spec h)).1
 ·exact hd
open Classical in
noncomputable def slotAt (d : Int) (n : ByteArray) : Option SlotK:=if h : okSl (d,n) then some ⟨(d,n),h⟩ else none
noncomputable def atG (G : SlotK → Option Int) (d : Int) (n : ByteArray) : Option Int:=(slotAt d n).bind G
theorem atG_of {G : SlotK → Option Int} {d : Int} {n : ByteArray} (h : okSl (d,n)) : atG G d n = G ⟨(d,n),h⟩:=by unfold atG slotAt; rw [dif_pos h]; rfl
/-- Where a path leads: the spot, and the status. -/
structure WR where
 dir : Int
 name : ByteArray
 ino : Int
 code : Int
def wrE (code : Int) : WR:=⟨0,⟨#[]⟩,0,code⟩
noncomputable def walkIn (fs : FS) (fo : Bool) (K : ByteArray → List ByteArray → Int → WR) : List ByteArray → Int → WR
 | [],dir=>⟨0,⟨#[]⟩,dir,0⟩
 | nm :: rest,dir=>
  if (nm.toList == [46,46]) = true then walkIn fs fo K rest (aboveF fs.G dir)
  else match atG fs.G dir nm with
   | none=>if rest.length = 0 then ⟨dir,nm,0,0⟩ else wrE 160
   | some ino=>match fs.N ino with
    | none=>wrE 160
    | some a=>if a.nd.kind = 3 ∧ (rest.length ≠ 0 ∨ fo = true) then K a.nd.target rest dir
     else if rest.length = 0 then ⟨dir,nm,ino,0⟩
     else if a.nd.kind ≠ 2 then wrE 162
     else walkIn fs fo K rest ino
noncomputable def walkK (fs : FS) (fo : Bool) : Nat → ByteArray → List ByteArray → Int → WR
 | 0,_,_,_=>wrE 166
 | left + 1,t,rest,dir=>if (leadP t).2.2 ≠ 0 then wrE 160 else walkIn fs fo (walkK fs fo left) ((leadP t).1 ++ rest) (if (leadP t).2.1 = true then 1 else dir)
noncomputable def walkS (fs : FS) (p : ByteArray) (fo : Bool) : WR:=walkIn fs fo (walkK fs fo 8) (splitP p).1 1
section
variable {fs : FS} {fo : Bool} {K : ByteArray → List ByteArray → Int → WR} {nm : ByteArray} {rest : List ByteArray} {dir ino : Int} {a : NodeA}
theorem walkIn_up (h : (nm.toList == [46,46]) = true) : walkIn fs fo K (nm :: rest) dir = walkIn fs fo K rest (aboveF fs.G dir):=by rw [walkIn,if_pos h]
theorem walkIn_last (h : ¬ (nm.toList == [46,46]) = true) (hg : atG fs.G dir nm = none) (h0 : rest.length = 0) : walkIn fs fo K (nm :: rest) dir = ⟨dir,nm,0,0⟩:=by rw [walkIn,if_neg h,hg]; simp only; rw [if_pos h0]
theorem walkIn_none (h : ¬ (nm.toList == [46,46]) = true) (hg : atG fs.G dir nm = none) (h0 : rest.length ≠ 0) : walkIn fs fo K (nm :: rest) dir = wrE 160:=by rw [walkIn,if_neg h,hg]; simp only; rw [if_neg h0]
theorem walkIn_link (h : ¬ (nm.toList == [46,46]) = true) (hg : atG fs.G dir nm = some ino) (ha : fs.N ino = some a) (hk : a.nd.kind = 3) (hf : rest.length ≠ 0 ∨ fo = true) : walkIn fs fo K (nm :: rest) dir = K a.nd.target rest dir:=by
 rw [walkIn,if_neg h,hg]; simp only [ha]; rw [if_pos ⟨hk,hf⟩]
theorem walkIn_is (h : ¬ (nm.toList == [46,46]) = true) (hg : atG fs.G dir nm = some ino) (ha : fs.N ino = some a) (hn : ¬ (a.nd.kind = 3 ∧ (rest.length ≠ 0 ∨ fo = true))) (h0 : rest.length = 0) : walkIn fs fo K (nm :: rest) dir = ⟨dir,nm,ino,0⟩:=by
 rw [walkIn,if_neg h,hg]; simp only [ha]; rw [if_neg hn,if_pos h0]
theorem walkIn_no (h : ¬ (nm.toList == [46,46]) = true) (hg : atG fs.G dir nm = some ino) (ha : fs.N ino = some a) (hn : a.nd.kind ≠ 3) (h0 : rest.length ≠ 0) (h2 : a.nd.kind ≠ 2) : walkIn fs fo K (nm :: rest) dir = wrE 162:=by
 rw [walkIn,if_neg h,hg]; simp only [ha]; rw [if_neg (fun x=>hn x.1),if_neg h0,if_pos h2]
theorem walkIn_in (h : ¬ (nm.toList == [46,46]) = true) (hg : atG fs.G dir nm = some ino) (ha : fs.N ino = some a) (h0 : rest.length ≠ 0) (h2 : a.nd.kind = 2) : walkIn fs fo K (nm :: rest) dir = walkIn fs fo K rest ino:=by
 rw [walkIn,if_neg h,hg]; simp only [ha]; rw [if_neg (fun x=>by omega),if_neg h0,if_neg (fun x=>x h2)]
end
theorem split_few (s : ByteArray) : (splitP s).1.length ≤ 32 ∧ ∀ x ∈ (splitP s).1,x.size ≤ 4294967280:=by
 unfold splitP
 by_cases h1 : (s.toList == [47]) = true
 ·rw [if_pos h1]; simp
 ·rw [if_neg h1]
  by_cases h2 : (!(Lib.hasPrefix s.data.toList [47]) || decide (1023 < s.size)) = true
  ·rw [if_pos h2]; simp
  ·rw [if_neg h2]
   simp only
   split
   ·simp
   ·rename_i h3
    simp only [Bool.or_eq_true,decide_eq_true_eq,not_or,Bool.not_eq_true] at h2 h3
    refine ⟨by simp only; omega,fun x hx=>?_⟩
    have hz:=cutL_size _ x hx
    have ht:=trim_size s.data.toList [47]
    have : (ByteArray.mk (Lib.trimPrefix s.data.toList [47]).toArray).size = (Lib.trimPrefix s.data.toList [47]).length:=by simp [ByteArray.size]
    rw [this] at hz
    have : s.data.toList.length = s.size:=by simp
    omega
theorem lead_few (s : ByteArray) (hs : s.size ≤ 4294967280) : (leadP s).1.length ≤ 32 ∧ ∀ x ∈ (leadP s).1,x.size ≤ 4294967280:=by
 unfold leadP
 split
 ·simp
 ·split
  ·exact split_few s
  ·split
   ·simp
   ·rename_i h3
    simp only [Bool.or_eq_true,decide_eq_true_eq,not_or,Bool.not_eq_true] at h3
    exact ⟨by simp only; omega,fun x hx=>Nat.le_trans (cutL_size s x hx) hs⟩
theorem target_size {n : ND} (h : n.right) (hk : n.kind = 3) : n.target.size ≤ 1023:=by
 unfold ND.right at h
 obtain ⟨_,_,_,_,h | h | h⟩:=h
 ·omega
 ·omega
 ·have:=h.2.2
  unfold targetB at this
  simp only [Bool.and_eq_true,decide_eq_true_eq,Bool.not_eq_true'] at this
  omega
end Go.Proofs.YtpboohfofodeeaaGreatDoor
