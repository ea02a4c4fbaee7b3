/- files: what data answers, and leaves (conditions: none). -/
import Derived.Test.YtpboohfofodeeaaGreatDoorM26
import Derived.Test.YtpboohfofodeeaaGreatDoorM21
namespace Go.Proofs.YtpboohfofodeeaaGreatDoor
open Go.RowKit Go.Maps
/-- An answer, read. -/
structure AnsP where
 code : Int
 data : ByteArray
 names : List ByteArray
 ranges : List (Int × Int)
 ino : Int
 nd : ND
def ansP0 (code : Int) : AnsP:=⟨code,⟨#[]⟩,[],[],0,zeroND⟩
/-- An answer in memory: what it reads as; its lists are the call's own. -/
structure AnsIn (w' : World) (base : Nat) (an : Ans) (p : AnsP) : Prop where
 code : an.code = p.code
 data : an.data = p.data
 names : w'.ownsRow base 9 1 an.names p.names.length (strV p.names)
 ranges : w'.ownsRow base 86 2 an.ranges p.ranges.length (rgCs p.ranges)
 ino : an.ino = p.ino
 nd : an.nd = p.nd
theorem ansIn0 (w' : World) (base : Nat) (code : Int) : AnsIn w' base (ansC code) (ansP0 code):=
 ⟨rfl,rfl,World.ownsRow_nil _ _ _ _,World.ownsRow_nil _ _ _ _,rfl,rfl⟩
structure OpInts (o : OpA) : Prop where
 off : -9223372036854775808 ≤ o.off ∧ o.off ≤ 9223372036854775807
 n : -9223372036854775808 ≤ o.n ∧ o.n ≤ 9223372036854775807
/-- The status of data. -/
def dataC (a : NodeA) (o : OpA) : Int:=
 if a.nd.kind = 2 then 163
 else if o.kind = 9 then (if o.off < 0 ∨ o.n < 0 ∨ 4096 < o.n then 1 else 0)
 else if o.kind = 21 then 0
 else if o.kind = 8 then (if o.off < 0 ∨ 4096 < o.data.size then 1 else if 4611686018427387904 - (o.data.size : Int) < o.off then 130 else 0)
 else if o.kind = 10 then (if o.n < 0 then 1 else if 4611686018427387904 < o.n then 130 else 0)
 else (if o.off < 0 ∨ o.n < 0 then 1 else 0)
def dataPS (a : NodeA) (o : OpA) : List (Int × ByteArray):=
 if o.kind = 8 then writeS o.off o.data a.ps else if o.kind = 10 then truncS o.n a.ps else if o.kind = 11 then punchS a.nd.size o.off o.n a.ps else a.ps
def dataSZ (a : NodeA) (o : OpA) : Int:=if o.kind = 8 then sizeW a.nd.size o.off o.data.size else if o.kind = 10 then o.n else a.nd.size
def dataNA (a : NodeA) (o : OpA) : NodeA:={ a with nd:={ a.nd with size:=dataSZ a o },ps:=dataPS a o }
def dataA (a : NodeA) (o : OpA) : AnsP:={ ansP0 (dataC a o) with data:=if o.kind = 9 ∧ dataC a o = 0 then readS a.nd.size o.off o.n a.ps else ⟨#[]⟩,ranges:=if o.kind = 21 ∧ dataC a o = 0 then rangesS a.nd.size a.ps else [] }
def dataFS (fs : FS) (ino : Int) (a : NodeA) (o : OpA) : FS:=if dataC a o = 0 then { fs with N:=upd fs.N ino (dataNA a o) } else fs
def DataEnds [Fence] (c : Nat) (w : World) (f b m : Nat) (fs : FS) (ino : Int) (a : NodeA) (o : OpA) (e : Ending) (w' : World) : Prop:=
 ∃ (an : Ans) (own' : Int → Own),e = .returned an.val ∧ AnsIn w' w.heap.size an (dataA a o) ∧ FlsB (c + 5000) w' f b m own' (dataFS fs ino a o) ∧ KeepF w w'
theorem wrF_len (off : Int) (data : ByteArray) : ∀ (f : Nat) (out : List (Int × ByteArray)) (p : Int),(wrF off data f out p).length ≤ out.length + f
 | 0,out,_=>Nat.le_refl _
 | f + 1,out,p=>by
  rw [wrF]
  split
  ·have h1:=wrF_len off data f (putP out (p / 64) (strOfNums (wrL off data out p))) (p + wrN data.size off p)
   have h2:=putP_length (t:=p / 64) (s:=strOfNums (wrL off data out p)) out
   omega
  ·omega
theorem dataPS_len (a : NodeA) (o : OpA) (h : dataC a o = 0) (hk : a.nd.kind ≠ 2) : (dataPS a o).length ≤ a.ps.length + 4097:=by
 unfold dataPS
 by_cases h8 : o.kind = 8
 ·rw [if_pos h8]
  unfold dataC at h
  rw [if_neg hk,if_neg (by omega),if_neg (by omega),if_pos h8] at h
  have hd : ¬ (o.off < 0 ∨ 4096 < o.data.size):=fun hb=>by rw [if_pos hb] at h; cases h
  have:=wrF_len o.off o.data (o.data.size + 1) a.ps o.off
  unfold writeS
  omega
 ·rw [if_neg h8]
  split
  ·exact Nat.le_trans (zerS_le _ _ _ _) (by omega)
  ·split
   ·exact Nat.le_trans (zerS_le _ _ _ _) (by omega)
   ·omega
/-- The node's pieces and size are laid: the files behind it. -/
theorem FlsB.lay_ [Fence] {c d : Nat} {W : World} {f b m : Nat} {own : Int → Own} {fs : FS} (h : FlsB c W f b m own fs) (ino : Int) (a : NodeA) (ha : fs.N ino = some a) (ps : List (Int × ByteArray)) (size : Int) (A : Option Addr) (q : Nat) (hd : c ≤ d) (hl : ps.length ≤ d) (hR : RdP W A ps.length ps) (hq : ps.length ≤ q) (hB : ∀ g o,A = some ⟨g,o,none⟩ → ∃ cs,Blk W g 111 cs) :
 FlsB d ((W.setCell ⟨(own ino).g,6,none⟩ (.slice A ps.length q)).setCell ⟨(own ino).g,4,none⟩ (.int .i64 size)) f b m (ownU own ino { own ino with v:=.slice A ps.length q }) { fs with N:=upd fs.N ino { a with nd:={ a.nd with size:=size },ps:=ps } } ∧ KeepF W ((W.setCell ⟨(own ino).g,6,none⟩ (.slice A ps.length q)).setCell ⟨(own ino).g,4,none⟩ (.int .i64 size)):=by
 have hA:=h.node ino a ha
 have hk : Keep (fun i=>i = (own ino).g) W ((W.setCell ⟨(own ino).g,6,none⟩ (.slice A ps.length q)).setCell ⟨(own ino).g,4,none⟩ (.int .i64 size)):=keep_set (keep_set (Keep.refl _ W) 6 _) 4 _
 have hblk:=(hA.blk.set_ 6 (.slice A ps.length q)).set_ 4 (.int .i64 size)
 obtain ⟨an,xa,ya⟩:=hA.att
 obtain ⟨es,cl,ho⟩:=ya.obj
 have hpn : ∀ g cs,Blk W g 111 cs → ¬ g = (own ino).g:=fun g cs hg=>Blk.ne_ hg hA.blk (by decide)
 refine h.node_ ino a _ ha (.slice A ps.length q) hk hd ⟨hblk,⟨A,q,rfl,⟨rfl,fun hn=>?_⟩,hq,fun g o hA=>?_⟩,hl,⟨an,by omega,ya.keep hk (fun e=>blk_ne_map hA.blk ho e.symm)⟩⟩
 ·obtain ⟨g,o,e,hc⟩:=hR.2 hn
  obtain ⟨cs,hcs⟩:=hB g o e
  exact ⟨g,o,e,fun j x hx=>⟨hk.cell (hc j x hx).1 (hpn g cs hcs),hk.cell (hc j x hx).2 (hpn g cs hcs)⟩⟩
 ·obtain ⟨cs,hcs⟩:=hB g o hA
  exact ⟨cs,hcs.keep hk (hpn g cs hcs)⟩
theorem own_pieces {w : World} {base n q : Nat} {A : Option Addr} {xs : List Value} (h : w.ownsRow base 111 2 (.slice A n q) n xs) : ∀ g o,A = some ⟨g,o,none⟩ → ∃ cs,Blk w g 111 cs:=fun g o hA=>by
 rcases h.2 with ⟨e,_⟩ | ⟨g',cap,cur,e,_,hb,_⟩
 ·injection e with e1 _ _
  rw [e1] at hA
  cases hA
 ·injection e with e1 _ _
  rw [e1] at hA
  cases hA
  exact ⟨cur,hb⟩
end Go.Proofs.YtpboohfofodeeaaGreatDoor
/- files: data, its boxes (conditions: none). -/
namespace Go.Proofs.YtpboohfofodeeaaGreatDoor
open Go.RowKit Go.Maps
/-- data's frame, laid: the box, the operation, the answer. -/
structure DaAt (w w1 : World) (f : Nat) (o : OpA) (r : Nat) : Prop where
 op : Blk w1 (w.heap.size + 1) 24 o.cs
 an : Blk w1 r 36 ans0.cs
 re : r = w.heap.size + 1 + 1
 bl : Below w.heap.size w w1
theorem da_at (w : World) (f : Nat) (o : OpA) : DaAt w (((w.alloc (.cells #[Pa f] 78)).alloc (.cells #[.int .i64 o.kind,.string o.path,.string o.dest,.string o.name,.int .i64 o.off,.int .i64 o.n,.string o.data] 24)).alloc (.cells #[.int .i64 0,.string ⟨#[]⟩,.slice none 0 0,.slice none 0 0,.int .i64 0,.int .i64 0,.int .i64 0,.int .i64 0,.int .i64 0,.int .i64 0,.string ⟨#[]⟩] 36)) f o (w.heap.size + 1 + 1):=by
 have e1 : (w.alloc (.cells #[Pa f] 78)).heap.size = w.heap.size + 1:=by simp
 have e2 : ((w.alloc (.cells #[Pa f] 78)).alloc (.cells o.cs 24)).heap.size = w.heap.size + 1 + 1:=by simp
 have hO:=(Blk.new (w.alloc (.cells #[Pa f] 78)) 24 o.cs).alloc (.cells ans0.cs 36)
 have hA:=Blk.new ((w.alloc (.cells #[Pa f] 78)).alloc (.cells o.cs 24)) 36 ans0.cs
 rw [e1] at hO
 rw [e2] at hA
 exact ⟨hO,hA,rfl,(((Below.refl _ _).alloc (Nat.le_refl _) _).alloc (by simp) _).alloc (by simp; omega) _⟩
theorem data_results {tm : Array Value} {W : World} {b : Nat} {a : Ans} (h2 : tm.getD 6 undef = .pointer (some ⟨b,0,none⟩)) (hB : Blk W b 36 a.cs) :
 (results Tryz.f58 tm).run Tryz.prog W = .ok a.val W:=by
 obtain ⟨c0,c1,c2,c3,c4,c5,c6,c7,c8,c9,c10⟩:=ans_cells hB
 unfold Ans.val Ans.cs
 clear hB
 rw [Array.getD_eq_getD_getElem?] at h2
 simp [results,Tryz.results58,go_sem, *]
theorem AnsIn.keep {w w' : World} {base r : Nat} {an : Ans} {p : AnsP} {cs : Array Value} (h : AnsIn w base an p) (hr : Blk w r 36 cs) (hk : Keep (fun i=>i = r) w w') : AnsIn w' base an p:=
 ⟨h.code,h.data,own_keep h.names hk (fun k hk' e=>own_blk_ne h.names hr (by decide) (by rw [hk',e])),own_keep h.ranges hk (fun k hk' e=>own_blk_ne h.ranges hr (by decide) (by rw [hk',e])),h.ino,h.nd⟩
theorem data_end [Fence] {c : Nat} {w W6 W7 : World} {f b m r _ino' : Nat} {ino : Int} {own' : Int → Own} {fs : FS} {a : NodeA} {o : OpA} {an : Ans} {cs : Array Value} (hA : Blk W6 r 36 cs) (hF : FlsB (c + 5000) W6 f b m own' (dataFS fs ino a o)) (hk : KeepF w W6) (hr : w.heap.size ≤ r) (hi : AnsIn W6 w.heap.size an (dataA a o)) (h7 : Keep (fun i=>i = r) W6 W7) :
 DataEnds c w f b m fs ino a o (.returned an.val) W7:=⟨an,own',rfl,hi.keep hA h7,hF.ans_ hA h7,hk.own hr h7⟩
theorem blk_of_own {w : World} {base n : Nat} {e : TypeId} {size : Nat} {v : Value} {xs : List Value} {r : Nat} {t : TypeId} {cs : Array Value} (h : w.ownsRow base e size v n xs) (hr : Blk w r t cs) (hne : e ≠ t) {w' : World} (hk : Keep (fun i=>i = r) w w') : w'.ownsRow base e size v n xs:=own_keep h hk (fun k hk' e'=>own_blk_ne h hr hne (by rw [hk',e']))
theorem da_box (w : World) (f : Nat) (o : OpA) : Blk (((w.alloc (.cells #[Pa f] 78)).alloc (.cells #[.int .i64 o.kind,.string o.path,.string o.dest,.string o.name,.int .i64 o.off,.int .i64 o.n,.string o.data] 24)).alloc (.cells #[.int .i64 0,.string ⟨#[]⟩,.slice none 0 0,.slice none 0 0,.int .i64 0,.int .i64 0,.int .i64 0,.int .i64 0,.int .i64 0,.int .i64 0,.string ⟨#[]⟩] 36)) w.heap.size 78 #[Pa f]:=((Blk.new w 78 #[Pa f]).alloc (.cells o.cs 24)).alloc (.cells ans0.cs 36)
end Go.Proofs.YtpboohfofodeeaaGreatDoor
