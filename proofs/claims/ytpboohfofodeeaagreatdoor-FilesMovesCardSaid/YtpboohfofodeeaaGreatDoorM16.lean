/- files: above, empty (conditions: none). -/
import Derived.Test.YtpboohfofodeeaaGreatDoorM15
namespace Go.Proofs.YtpboohfofodeeaaGreatDoor
open Go.RowKit Go.Maps
def wkV (f : Nat) : Value:=.agg #[Pa f]
def AboveP (G : SlotK → Option Int) (dir r : Int) : Prop:=(∃ s,G s = some dir ∧ r = s.1.1) ∨ (∀ s,G s ≠ some dir) ∧ r = dir
/-- A range over the names begins, behind a block laid. -/
theorem names_range [Fence] {c : Nat} {w : World} {f b m : Nat} {own : Int → Own} {fs : FS} (h : FlsB c w f b m own fs) : ∃ n2 w1,(Instr.range 89 (.map (some m))).run Tryz.prog w = .ok (.pointer (some ⟨w.heap.size,0,none⟩)) w1 ∧ RngK (fun k : SlotK=>litSl k.1) Tryz.prog 96 w1 m w.heap.size (nmV fs.G) n2 (fun k=>(nmV fs.G k).isSome) n2 ∧ Below w.heap.size w w1 ∧ w1.heap.size = w.heap.size + 1:=by
 obtain ⟨n2,_,y⟩:=h.names
 obtain ⟨w1,h1,h2,h3,h4⟩:=y.range_ slot_enc Tryz.underlying89
 exact ⟨n2,w1,h1,h2,(Keep.of_grown h3 (fun _=>False) (fun k hk=>by cases hk)).to_below (Nat.le_refl _) (fun _ h=>h.elim),h4⟩
set_option maxRecDepth 100000 in
set_option maxHeartbeats 1000000 in
theorem fw_above [Fence] {c : Nat} {w : World} {f b m : Nat} {own : Int → Own} {fs : FS} (h : FlsB c w f b m own fs) (dir : Int) :
 Calls Tryz.prog 103 #[wkV f,.int .i64 dir] w fun e w'=>(∃ r,e = .returned (.int .i64 r) ∧ AboveP fs.G dir r) ∧ Below w.heap.size w w':=by
 have hb0 : Below w.heap.size w (w.alloc (.cells #[Pa f] 78)):=(Below.refl _ _).alloc (Nat.le_refl _) _
 have hF:=h.below hb0
 have d2 : (w.alloc (.cells #[Pa f] 78)).cell? ⟨f,2,none⟩ = some (.map (some m)):=hF.blk.cell 2
 have hW:=Blk.new w 78 #[Pa f]
 have d0 : (w.alloc (.cells #[Pa f] 78)).cell? ⟨w.heap.size,0,none⟩ = some (Pa f):=hW.cell 0
 obtain ⟨n2,w1,hrun,hrg,hb1,hs1⟩:=names_range hF
 have e1 : (w.alloc (.cells #[Pa f] 78)).heap.size = w.heap.size + 1:=by simp
 rw [e1] at hrg
 have HB1:=Lib.hid (bl_t hb0 hb1)
 have HRG:=Lib.hid hrg
 unfold wkV
 clear h hF hW hb0 hb1 hrg hs1 e1
 go_enter Tryz.func103,Tryz.ntmps103
 go_wp2
 clear hrun d2 d0
 go_loopw [5,6] (fun _ _ wr=>∃ left cnt,RngK (fun k : SlotK=>litSl k.1) Tryz.prog 96 wr m (w.heap.size + 1) (nmV fs.G) n2 left cnt ∧ Below w.heap.size w wr ∧ Hid (∀ s,left s = false → fs.G s ≠ some dir)) (fun _ _ wr=>wr.rangeLeft m (w.heap.size + 1))
 case atStart=>exact ⟨_,_,HRG.out,HB1.out,Lib.hid (fun s hs h=>by simp [nmV,h] at hs)⟩
 case round=>
  obtain ⟨left,cnt,hrg,hb,HL⟩:=hrel
  rcases hrg.next_ slot_enc slot_inv 0 with ⟨h0,hl,hN⟩ | ⟨s,v,w2,cnt',hk,hFs,hN,hrg3,hlt,hg2,hs2,hE⟩
  ·have hyes : Hid (AboveP fs.G dir dir):=Lib.hid (.inr ⟨fun s=>HL.out s (hl s),rfl⟩)
   clear hrg
   go_wp2
   go_ret
   exact ⟨⟨dir,rfl,hyes.out⟩,hb⟩
  ·obtain ⟨ino,hGs,rfl⟩:=nmV_some hFs
   have hb2 : Below w.heap.size w w2:=hb.trans ((Keep.of_grown hg2 (fun i=>i = w.heap.size + 1) (fun k hk=>by cases hk; exact .inl rfl)).to_below (hb.size) (fun i h=>by omega))
   obtain ⟨d,nm,hsd⟩ : ∃ d nm,s.1 = (d,nm):=⟨s.1.1,s.1.2,rfl⟩
   have hen : encSl s.1 = .agg #[.int .i64 d,.string nm]:=by rw [hsd]; rfl
   simp only [hen] at hN hE
   have hb3:=Lib.hid (hb2.alloc hb2.size (.cells #[.int .i64 d,.string nm] 96))
   have hrg4:=Lib.hid (hrg3.alloc_ (.cells #[.int .i64 d,.string nm] 96))
   have hrg0:=Lib.hid hrg
   clear hrg hrg3 hb2 hg2
   by_cases e : ino = dir
   ·subst e
    have hyes : Hid (AboveP fs.G ino d):=Lib.hid (.inl ⟨s,hGs,by rw [hsd]⟩)
    go_wp2
    go_ret
    exact ⟨⟨d,rfl,hyes.out⟩,hb3.out⟩
   ·have e' : (ino == dir) = false:=by simpa using e
    go_wp2
    go_roundw
    case rel=>exact ⟨_,_,hrg4.out,hb3.out,Lib.hid (fun x hx hG=>by
     by_cases e2 : x = s
     ·subst e2
      rw [hGs] at hG
      exact e (Option.some.inj hG)
     ·exact HL.out x (by simpa [e2] using hx) hG)⟩
    case measure=>rw [hrg4.out.left_eq,hrg0.out.left_eq]; exact hlt
def emptyS (G : SlotK → Option Int) (dir : Int) : Prop:=∀ s i,G s = some i → s.1.1 ≠ dir
set_option maxRecDepth 100000 in
set_option maxHeartbeats 1000000 in
theorem fw_empty [Fence] {c : Nat} {w : World} {f b m : Nat} {own : Int → Own} {fs : FS} (h : FlsB c w f b m own fs) (dir : Int) :
 Calls Tryz.prog 109 #[wkV f,.int .i64 dir] w fun e w'=>TellsP (emptyS fs.G dir) e ∧ Below w.heap.size w w':=by
 have hb0 : Below w.heap.size w (w.alloc (.cells #[Pa f] 78)):=(Below.refl _ _).alloc (Nat.le_refl _) _
 have hF:=h.below hb0
 have d2 : (w.alloc (.cells #[Pa f] 78)).cell? ⟨f,2,none⟩ = some (.map (some m)):=hF.blk.cell 2
 have hW:=Blk.new w 78 #[Pa f]
 have d0 : (w.alloc (.cells #[Pa f] 78)).cell? ⟨w.heap.size,0,none⟩ = some (Pa f):=hW.cell 0
 obtain ⟨n2,w1,hrun,hrg,hb1,hs1⟩:=names_range hF
 have e1 : (w.alloc (.cells #[Pa f] 78)).heap.size = w.heap.size + 1:=by simp
 rw [e1] at hrg
 have HB1:=Lib.hid (bl_t hb0 hb1)
 have HRG:=Lib.hid hrg
 unfold wkV
 clear h hF hW hb0 hb1 hrg hs1 e1
 go_enter Tryz.func109,Tryz.ntmps109
 go_wp2
 clear hrun d2 d0
 go_loopw [5] (fun _ wr=>∃ left cnt,RngK (fun k : SlotK=>litSl k.1) Tryz.prog 96 wr m (w.heap.size + 1) (nmV fs.G) n2 left cnt ∧ Below w.heap.size w wr ∧ Hid (∀ s i,left s = false → fs.G s = some i → s.1.1 ≠ dir)) (fun _ wr=>wr.rangeLeft m (w.heap.size + 1))
 case atStart=>exact ⟨_,_,HRG.out,HB1.out,Lib.hid (fun s i hs h=>by simp [nmV,h] at hs)⟩
 case round=>
  obtain ⟨left,cnt,hrg,hb,HL⟩:=hrel
  rcases hrg.next_ slot_enc slot_inv 0 with ⟨h0,hl,hN⟩ | ⟨s,v,w2,cnt',hk,hFs,hN,hrg3,hlt,hg2,hs2,hE⟩
  ·have hyes : Hid (TellsP (emptyS fs.G dir) (.returned (.bool true))):=Lib.hid ⟨true,rfl,⟨fun _ s i hG=>HL.out s i (hl s) hG,fun _=>rfl⟩⟩
   clear hrg
   go_wp2
   go_ret
   exact ⟨hyes.out,hb⟩
  ·obtain ⟨ino,hGs,rfl⟩:=nmV_some hFs
   have hb2 : Below w.heap.size w w2:=hb.trans ((Keep.of_grown hg2 (fun i=>i = w.heap.size + 1) (fun k hk=>by cases hk; exact .inl rfl)).to_below (hb.size) (fun i h=>by omega))
   obtain ⟨d,nm,hsd⟩ : ∃ d nm,s.1 = (d,nm):=⟨s.1.1,s.1.2,rfl⟩
   have hen : encSl s.1 = .agg #[.int .i64 d,.string nm]:=by rw [hsd]; rfl
   simp only [hen] at hN hE
   have hb3:=Lib.hid (hb2.alloc hb2.size (.cells #[.int .i64 d,.string nm] 96))
   have hrg4:=Lib.hid (hrg3.alloc_ (.cells #[.int .i64 d,.string nm] 96))
   have hrg0:=Lib.hid hrg
   clear hrg hrg3 hb2 hg2
   by_cases e : d = dir
   ·subst e
    have hno : Hid (TellsP (emptyS fs.G d) (.returned (.bool false))):=Lib.hid ⟨false,rfl,⟨fun h=>(by cases h),fun hr=>absurd (by rw [hsd]) (hr s ino hGs)⟩⟩
    go_wp2
    go_ret
    exact ⟨hno.out,hb3.out⟩
   ·have e' : (d == dir) = false:=by simpa using e
    go_wp2
    go_roundw
    case rel=>exact ⟨_,_,hrg4.out,hb3.out,Lib.hid (fun x i hx hG=>by
     by_cases e2 : x = s
     ·subst e2
      rw [hsd]; exact e
     ·exact HL.out x i (by simpa [e2] using hx) hG)⟩
    case measure=>rw [hrg4.out.left_eq,hrg0.out.left_eq]; exact hlt
end Go.Proofs.YtpboohfofodeeaaGreatDoor
/- files: long (conditions: none). -/
namespace Go.Proofs.YtpboohfofodeeaaGreatDoor
open Go.RowKit Go.Maps
/-- Is a path too long? -/
def longS (fs : FS) : Prop:=∃ H,SlotsP fs.G H ∧ ∃ s i,fs.G s = some i ∧ ¬ fitsP H s
theorem longS_iff {fs : FS} {H : Int → List SlotK} (h : SlotsP fs.G H) : longS fs ↔ ∃ s i,fs.G s = some i ∧ ¬ fitsP H s:=⟨fun ⟨H',h',hl⟩=>by rw [slots_unique h h']; exact hl,fun hl=>⟨H,h,hl⟩⟩
set_option maxRecDepth 100000 in
set_option maxHeartbeats 2000000 in
theorem fw_long [Fence] {c : Nat} {w : World} {f b m : Nat} {own : Int → Own} {fs : FS} (h : FlsB c w f b m own fs) (hn : namesOk fs) (hc : c ≤ 1099511627776) :
 Calls Tryz.prog 178 #[wkV f] w fun e w'=>TellsP (longS fs) e ∧ Below w.heap.size w w':=by
 have hb0 : Below w.heap.size w (w.alloc (.cells #[Pa f] 78)):=(Below.refl _ _).alloc (Nat.le_refl _) _
 have hF:=h.below hb0
 have hW:=Blk.new w 78 #[Pa f]
 have d0 : (w.alloc (.cells #[Pa f] 78)).cell? ⟨w.heap.size,0,none⟩ = some (Pa f):=hW.cell 0
 obtain ⟨n2,x2,y2⟩:=hF.names
 have hS:=Lib.hid (st_slots sort_slots (hF.blk.cell 2) y2 h.wf (Nat.le_trans x2 hc))
 have HF:=Lib.hid hF
 have HW:=Lib.hid hW
 have HB0:=Lib.hid hb0
 unfold wkV
 clear h hF hW hb0 y2
 go_enter Tryz.func178,Tryz.ntmps178
 go_wp2_with (
  go_at_call 37
  refine hS.out.mono ?_
  rintro e w2 ⟨mo,no,F2,H,rfl,q1,q2,q3,q4,q5⟩
  have hF2:=HF.out.below q5
  have d2 : w2.cell? ⟨f,2,none⟩ = some (.map (some m)):=hF2.blk.cell 2
  have d02 : w2.cell? ⟨w.heap.size,0,none⟩ = some (Pa f):=(blk_below HW.out q5).cell 0
  obtain ⟨n3,w3,hrun,hrg,hb3,hs3⟩:=names_range hF2
  have HB2:=Lib.hid (bl_t HB0.out q5)
  have HB3:=Lib.hid hb3
  have HRG:=Lib.hid hrg
  have HMO:=Lib.hid q2
  have HRO:=Lib.hid q3
  have HSP:=Lib.hid q4
  clear q1 q2 q3 q4 q5 hF2 hb3 hrg)
 clear hrun d2 d02 d0
 go_loopw [4,5,6] (fun _ _ _ wr=>∃ left cnt,RngK (fun k : SlotK=>litSl k.1) Tryz.prog 96 wr m w2.heap.size (nmV fs.G) n3 left cnt ∧ Below w2.heap.size w2 wr ∧ Hid (∀ s i,left s = false → fs.G s = some i → fitsP H s)) (fun _ _ _ wr=>wr.rangeLeft m w2.heap.size)
 case atStart=>exact ⟨_,_,HRG.out,HB3.out,Lib.hid (fun s i hs h=>by simp [nmV,h] at hs)⟩
 case round=>
  obtain ⟨left,cnt,hrg,hb,HL⟩:=hrel
  rcases hrg.next_ slot_enc slot_inv 0 with ⟨h0,hl,hN⟩ | ⟨s,v,w4,cnt',hk,hFs,hN,hrg3,hlt,hg2,hs2,hE⟩
  ·have hno : Hid (TellsP (longS fs) (.returned (.bool false)) ∧ Below w.heap.size w wr):=Lib.hid ⟨⟨false,rfl,⟨fun h=>(by cases h),fun hr=>by
    obtain ⟨s,i,h1,h2⟩:=(longS_iff HSP.out).1 hr
    exact absurd (HL.out s i (hl s) h1) h2⟩⟩,bl_t HB2.out hb⟩
   clear hrg hb
   go_wp2
   go_ret
   exact hno.out
  ·obtain ⟨ino,hGs,rfl⟩:=nmV_some hFs
   have hb4 : Below w2.heap.size w2 w4:=hb.trans ((Keep.of_grown hg2 (fun i=>i = w2.heap.size) (fun k hk=>by cases hk; exact .inl rfl)).to_below (hb.size) (fun i h=>by omega))
   have hba : Below w2.heap.size w2 (w4.alloc (.cells #[.int .i64 s.1.1,.string s.1.2] 96)):=hb4.alloc hb4.size _
   have hP:=Lib.hid (st_path s (HMO.out.keep (Keep.of_below hba (fun _=>False)) (fun h=>h)) (HRO.out.below hba) (fun ino s hs=>hn s ino ((HSP.out ino).2.1 s |>.1 hs)) (hn s ino hGs))
   have hen : encSl s.1 = .agg #[.int .i64 s.1.1,.string s.1.2]:=rfl
   simp only [hen] at hN hE
   unfold slotV at hP
   have HBA:=Lib.hid hba
   have HRG4:=Lib.hid (hrg3.alloc_ (.cells #[.int .i64 s.1.1,.string s.1.2] 96))
   have HRG0:=Lib.hid hrg
   have hyes : ¬ fitsP H s → Hid (TellsP (longS fs) (.returned (.bool true))):=fun h=>Lib.hid ⟨true,rfl,⟨fun _=>(longS_iff HSP.out).2 ⟨s,ino,hGs,h⟩,fun _=>rfl⟩⟩
   have HYES:=Lib.hid hyes
   clear hrg hrg3 hb4 hba hg2 hyes hb
   go_wp2_with (go_at_call 38; refine hP.out.mono ?_; rintro e w7 ⟨hpe,hb7⟩; have HB7:=Lib.hid (bl_t HBA.out hb7); have HRG7:=Lib.hid (HRG4.out.below hb7); clear hb7; (rcases hpe with ⟨p7,hp7,rfl⟩ | ⟨hp7,rfl⟩))
   ·have hbig : (1023 : Int) < p7.size:=by assumption
    have hy:=HYES.out (fun ⟨p,hp,hp2⟩=>by
     rw [hp7] at hp
     cases hp
     omega)
    go_ret
    exact ⟨hy.out,bl_t HB2.out HB7.out⟩
   ·have hsm : (p7.size : Int) ≤ 1023:=by assumption
    go_roundw
    case rel=>exact ⟨_,_,HRG7.out,HB7.out,Lib.hid (fun x i hx hG=>by
     by_cases e2 : x = s
     ·subst e2
      exact ⟨p7,hp7,by omega⟩
     ·exact HL.out x i (by simpa [e2] using hx) hG)⟩
    case measure=>rw [HRG7.out.left_eq,HRG0.out.left_eq]; exact hlt
   ·have hy:=HYES.out (fun ⟨p,hp,_⟩=>by
     rw [hp7] at hp
     cases hp)
    go_ret
    exact ⟨hy.out,bl_t HB2.out HB7.out⟩
end Go.Proofs.YtpboohfofodeeaaGreatDoor
/- Files in memory under an operation: what may be written, and how the state goes on (conditions: none). -/
namespace Go.Proofs.YtpboohfofodeeaaGreatDoor
open Go.RowKit Go.Maps
/-- What operations write: maps, nodes, the files' own block. -/
def Foot [Fence] (w : World) (i : Nat) : Prop:=Fence.lo ≤ i ∧ ((∃ es cl,w.heap[i]? = some (.map es cl)) ∨ (∃ cs,Blk w i 135 cs) ∨ ∃ cs,Blk w i 91 cs)
def KeepF [Fence] (w w' : World) : Prop:=Keep (Foot w) w w'
theorem KeepF.refl [Fence] (w : World) : KeepF w w:=Keep.refl _ w
theorem KeepF.trans [Fence] {a b c : World} (h : KeepF a b) (k : KeepF b c) : KeepF a c:=by
 refine Keep.trans h k fun i hi hf=>Classical.byContradiction fun hn=>hn ?_
 have e:=h.block i hi hn
 unfold Foot Blk at hf ⊢
 rw [e] at hf
 exact hf
theorem KeepF.of_below [Fence] {w w' : World} (h : Below w.heap.size w w') : KeepF w w':=Keep.of_below h _
theorem KeepF.below [Fence] {a b c : World} (h : KeepF a b) (k : Below b.heap.size b c) : KeepF a c:=h.trans (KeepF.of_below k)
theorem KeepF.after [Fence] {a b c : World} (h : Below a.heap.size a b) (k : KeepF b c) : KeepF a c:=(KeepF.of_below h).trans k
theorem KeepF.of_map [Fence] {w w' : World} {b : Nat} (hl : Fence.lo ≤ b) {es : Array MapEntry} {cl : Nat} (ho : w.heap[b]? = some (.map es cl)) (hk : Keep (fun i=>i = b) w w') : KeepF w w':=hk.mono fun i _ h=>by subst h; exact ⟨hl,.inl ⟨es,cl,ho⟩⟩
theorem KeepF.of_node [Fence] {w w' : World} {g : Nat} (hl : Fence.lo ≤ g) {cs : Array Value} (ho : Blk w g 135 cs) (hk : Keep (fun i=>i = g) w w') : KeepF w w':=hk.mono fun i _ h=>by subst h; exact ⟨hl,.inr (.inl ⟨cs,ho⟩)⟩
theorem KeepF.of_files [Fence] {w w' : World} {g : Nat} (hl : Fence.lo ≤ g) {cs : Array Value} (ho : Blk w g 91 cs) (hk : Keep (fun i=>i = g) w w') : KeepF w w':=hk.mono fun i _ h=>by subst h; exact ⟨hl,.inr (.inr ⟨cs,ho⟩)⟩
theorem KeepF.blk [Fence] {w w' : World} (h : KeepF w w') {g : Nat} {t : TypeId} {cs : Array Value} (hb : Blk w g t cs) (h1 : t ≠ 135) (h2 : t ≠ 91) : Blk w' g t cs:=hb.keep h fun hf=>by
 rcases hf with ⟨_,⟨es,cl,e⟩ | ⟨cs',e⟩ | ⟨cs',e⟩⟩
 ·exact blk_ne_map hb e rfl
 ·exact Blk.ne_ hb e h1 rfl
 ·exact Blk.ne_ hb e h2 rfl
theorem piece_ne {w : World} {g b : Nat} {cs : Array Value} (h : Blk w g 111 cs) {es : Array MapEntry} {cl : Nat} (ho : w.heap[b]? = some (.map es cl)) : g ≠ b:=blk_ne_map h ho
theorem NodeO.more {c d : Nat} {w : World} {o : Own} {a : NodeA} (h : NodeO c w o a) (hd : c ≤ d) : NodeO d w o a:=⟨h.blk,h.row,Nat.le_trans h.few hd,let ⟨an,x,y⟩:=h.att; ⟨an,Nat.le_trans x hd,y⟩⟩
theorem FlsB.more [Fence] {c d : Nat} {w : World} {f b m : Nat} {own : Int → Own} {fs : FS} (h : FlsB c w f b m own fs) (hd : c ≤ d) : FlsB d w f b m own fs:=
 ⟨h.blk,let ⟨n,x,y⟩:=h.nodes; ⟨n,Nat.le_trans x hd,y⟩,let ⟨n,x,y⟩:=h.names; ⟨n,Nat.le_trans x hd,y⟩,fun k a e=>(h.node k a e).more hd,h.apart,h.ne,h.wf,h.lo⟩
/-- Other names. -/
theorem FlsB.names_ [Fence] {c n : Nat} {w w' : World} {f b m : Nat} {own : Int → Own} {fs : FS} (h : FlsB c w f b m own fs) (G : SlotK → Option Int) (hG : ∀ s i,G s = some i → (Lit.int .i64 i).wf = true) (hk : Keep (fun i=>i = m) w w') (hn : n ≤ c + 1) (hm : MapK (fun k : SlotK=>litSl k.1) Tryz.prog 96 w' m (nmV G) n) :
 FlsB (c + 1) w' f b m own { fs with G:=G } ∧ KeepF w w':=by
 obtain ⟨n1,x1,y1⟩:=h.nodes
 obtain ⟨n2,x2,y2⟩:=h.names
 obtain ⟨es,cl,ho⟩:=y2.obj
 refine ⟨⟨h.blk.keep hk (blk_ne_map h.blk ho),⟨n1,by omega,y1.keep hk h.ne.1⟩,⟨n,hn,hm⟩,fun k a e=>?_,h.apart,h.ne,hG,h.lo⟩,KeepF.of_map h.lo.1.2.2 ho hk⟩
 have hnode:=h.node k a e
 exact (hnode.keep hk (blk_ne_map hnode.blk ho) (h.ne.2 k a e).2 (fun g cs hg=>piece_ne hg ho)).more (Nat.le_succ c)
/-- Another next number. -/
theorem FlsB.next_ [Fence] {c : Nat} {w : World} {f b m : Nat} {own : Int → Own} {fs : FS} (h : FlsB c w f b m own fs) (n : Int) : FlsB c (w.setCell ⟨f,0,none⟩ (.int .i64 n)) f b m own { fs with next:=n } ∧ KeepF w (w.setCell ⟨f,0,none⟩ (.int .i64 n)):=by
 have hk : Keep (fun i=>i = f) w (w.setCell ⟨f,0,none⟩ (.int .i64 n)):=(Keep.refl (fun i=>i = f) w).setCell (p:=⟨f,0,none⟩) (.inl rfl) _
 obtain ⟨n1,x1,y1⟩:=h.nodes
 obtain ⟨n2,x2,y2⟩:=h.names
 refine ⟨⟨h.blk.set_ 0 _,⟨n1,x1,y1.keep hk (fun e=>y1.blk_ne h.blk e)⟩,⟨n2,x2,y2.keep hk (fun e=>y2.blk_ne h.blk e)⟩,fun k a e=>?_,h.apart,h.ne,h.wf,h.lo⟩,KeepF.of_files h.lo.1.1 h.blk hk⟩
 have hn:=h.node k a e
 obtain ⟨an,x,y⟩:=hn.att
 exact hn.keep hk (hn.blk.ne_ h.blk (by decide)) (fun e=>y.blk_ne h.blk e) (fun g cs hg=>Blk.ne_ hg h.blk (by decide))
/-- Another inode, other pieces, of a node that is there. -/
theorem FlsB.node_ [Fence] {c d : Nat} {w w' : World} {f b m : Nat} {own : Int → Own} {fs : FS} (h : FlsB c w f b m own fs) (ino : Int) (a a' : NodeA) (ha : fs.N ino = some a) (v' : Value) (hk : Keep (fun i=>i = (own ino).g) w w') (hd : c ≤ d) (hN : NodeO d w' { own ino with v:=v' } a') :
 FlsB d w' f b m (ownU own ino { own ino with v:=v' }) { fs with N:=upd fs.N ino a' } ∧ KeepF w w':=by
 have hA:=h.node ino a ha
 obtain ⟨n1,x1,y1⟩:=h.nodes
 obtain ⟨n2,x2,y2⟩:=h.names
 obtain ⟨es1,cl1,o1⟩:=y1.obj
 obtain ⟨es2,cl2,o2⟩:=y2.obj
 have hnn : ∀ k z,upd fs.N ino a' k = some z → ∃ z',fs.N k = some z':=fun k z e=>by
  unfold upd at e
  by_cases h1 : k = ino
  ·exact ⟨a,by rw [h1]; exact ha⟩
  ·rw [if_neg h1] at e; exact ⟨z,e⟩
 have ho' : ∀ k,(ownU own ino { own ino with v:=v' } k).g = (own k).g ∧ (ownU own ino { own ino with v:=v' } k).ab = (own k).ab:=fun k=>by
  unfold ownU
  by_cases e : k = ino
  ·subst e; rw [if_pos rfl]; exact ⟨rfl,rfl⟩
  ·rw [if_neg e]; exact ⟨rfl,rfl⟩
 refine ⟨⟨h.blk.keep hk (Blk.ne_ h.blk hA.blk (by decide)),⟨n1,by omega,by
  show MapI _ _ _ _ (fun k=>(upd fs.N ino a' k).map fun _=>ptrG (ownU own ino { own ino with v:=v' } k).g) _
  rw [nodesF_same fs.N own _ ino a _ ha (fun k=>(ho' k).1)]; exact y1.keep hk (fun e=>blk_ne_map hA.blk o1 e.symm)⟩,⟨n2,by omega,y2.keep hk (fun e=>blk_ne_map hA.blk o2 e.symm)⟩,fun k z e=>?_,fun j k x y hjk hj hk'=>?_,⟨h.ne.1,fun k z e=>?_⟩,h.wf,h.lo.1,fun k z e=>?_⟩,KeepF.of_node (h.lo.2 ino a ha).1 hA.blk hk⟩
 ·have e : upd fs.N ino a' k = some z:=e
  unfold upd at e
  unfold ownU
  by_cases h1 : k = ino
  ·rw [if_pos h1] at e ⊢; cases e
   exact hN
  ·rw [if_neg h1] at e ⊢
   have hz:=h.node k z e
   obtain ⟨an',_,y'⟩:=hz.att
   obtain ⟨es,cl,ho⟩:=y'.obj
   exact (hz.keep hk (h.apart k ino z a h1 e ha).1 (fun e=>blk_ne_map hA.blk ho e.symm) (fun g cs hg=>Blk.ne_ hg hA.blk (by decide))).more hd
 ·obtain ⟨x',hx⟩:=hnn j x hj
  obtain ⟨y',hy⟩:=hnn k y hk'
  rw [(ho' j).1,(ho' k).1,(ho' j).2,(ho' k).2]
  exact h.apart j k x' y' hjk hx hy
 ·obtain ⟨z',hz⟩:=hnn k z e
  rw [(ho' k).2]
  exact h.ne.2 k z' hz
 ·obtain ⟨z',hz⟩:=hnn k z e
  rw [(ho' k).1,(ho' k).2]
  exact h.lo.2 k z' hz
/-- Other attributes. -/
theorem FlsB.att_ [Fence] {c n : Nat} {w w' : World} {f b m : Nat} {own : Int → Own} {fs : FS} (h : FlsB c w f b m own fs) (ino : Int) (a : NodeA) (ha : fs.N ino = some a) (fa : ByteArray → Option ByteArray) (hk : Keep (fun i=>i = (own ino).ab) w w') (hn : n ≤ c + 1) (hm : MapK litS Tryz.prog 9 w' (own ino).ab (atV fa) n) :
 FlsB (c + 1) w' f b m own { fs with N:=upd fs.N ino { a with at_:=fa } } ∧ KeepF w w':=by
 have hA:=h.node ino a ha
 obtain ⟨an,_,yA⟩:=hA.att
 obtain ⟨es,cl,ho⟩:=yA.obj
 obtain ⟨n1,x1,y1⟩:=h.nodes
 obtain ⟨n2,x2,y2⟩:=h.names
 have hne:=h.ne.2 ino a ha
 have hnn : ∀ k z,upd fs.N ino { a with at_:=fa } k = some z → ∃ z',fs.N k = some z':=fun k z e=>by
  unfold upd at e
  by_cases h1 : k = ino
  ·exact ⟨a,by rw [h1]; exact ha⟩
  ·rw [if_neg h1] at e; exact ⟨z,e⟩
 refine ⟨⟨h.blk.keep hk (blk_ne_map h.blk ho),⟨n1,by omega,by
  show MapI _ _ _ _ (fun k=>(upd fs.N ino { a with at_:=fa } k).map fun _=>ptrG (own k).g) _
  rw [nodesF_same fs.N own own ino a _ ha (fun _=>rfl)]; exact y1.keep hk (fun e=>hne.1 e.symm)⟩,⟨n2,by omega,y2.keep hk (fun e=>hne.2 e.symm)⟩,fun k z e=>?_,fun j k x y hjk hj hk'=>?_,⟨h.ne.1,fun k z e=>?_⟩,h.wf,h.lo.1,fun k z e=>?_⟩,KeepF.of_map (h.lo.2 ino a ha).2 ho hk⟩
 ·have e : upd fs.N ino { a with at_:=fa } k = some z:=e
  unfold upd at e
  by_cases h1 : k = ino
  ·rw [if_pos h1] at e; cases e
   subst h1
   have hA':=hA.row
   obtain ⟨A,q,hv,hr,hq,hb⟩:=hA'
   refine ⟨hA.blk.keep hk (blk_ne_map hA.blk ho),⟨A,q,hv,⟨hr.1,fun hn=>?_⟩,hq,fun g o' hA=>?_⟩,Nat.le_succ_of_le hA.few,⟨n,hn,hm⟩⟩
   ·obtain ⟨g,o',hA,hc⟩:=hr.2 hn
    obtain ⟨cs,hcs⟩:=hb g o' hA
    exact ⟨g,o',hA,fun j z hz=>⟨hk.cell (hc j z hz).1 (piece_ne hcs ho),hk.cell (hc j z hz).2 (piece_ne hcs ho)⟩⟩
   ·obtain ⟨cs,hcs⟩:=hb g o' hA
    exact ⟨cs,hcs.keep hk (piece_ne hcs ho)⟩
  ·rw [if_neg h1] at e
   have hz:=h.node k z e
   exact (hz.keep hk (blk_ne_map hz.blk ho) (h.apart k ino z a h1 e ha).2 (fun g cs hg=>piece_ne hg ho)).more (Nat.le_succ c)
 ·obtain ⟨x',hx⟩:=hnn j x hj
  obtain ⟨y',hy⟩:=hnn k y hk'
  exact h.apart j k x' y' hjk hx hy
 ·obtain ⟨z',hz⟩:=hnn k z e
  exact h.ne.2 k z' hz
 ·obtain ⟨z',hz⟩:=hnn k z e
  exact h.lo.2 k z' hz
theorem rem_some {α : Type} {N : Int → Option α} {k x : Int} {a : α} (h : rem N k x = some a) : x ≠ k ∧ N x = some a:=by
 unfold rem at h
 by_cases e : x = k
 ·rw [if_pos e] at h; cases h
 ·rw [if_neg e] at h; exact ⟨e,h⟩
/-- A node is gone. -/
theorem FlsB.drop_ [Fence] {c n : Nat} {w w' : World} {f b m : Nat} {own : Int → Own} {fs : FS} (h : FlsB c w f b m own fs) (ino : Int) (hk : Keep (fun i=>i = b) w w') (hn : n ≤ c) (hm : MapI Tryz.prog 3 w' b (rem (fun k=>(fs.N k).map fun _=>ptrG (own k).g) ino) n) :
 FlsB c w' f b m own { fs with N:=rem fs.N ino } ∧ KeepF w w':=by
 obtain ⟨n1,x1,y1⟩:=h.nodes
 obtain ⟨n2,x2,y2⟩:=h.names
 obtain ⟨es,cl,ho⟩:=y1.obj
 refine ⟨⟨h.blk.keep hk (blk_ne_map h.blk ho),⟨n,hn,hm.congr fun k=>?_⟩,⟨n2,x2,y2.keep hk (fun e=>h.ne.1 e.symm)⟩,fun k a e=>?_,fun j k x y hjk hj hk'=>h.apart j k x y hjk (rem_some hj).2 (rem_some hk').2,⟨h.ne.1,fun k a e=>h.ne.2 k a (rem_some e).2⟩,h.wf,h.lo.1,fun k a e=>h.lo.2 k a (rem_some e).2⟩,KeepF.of_map h.lo.1.2.1 ho hk⟩
 ·unfold rem
  by_cases e : k = ino
  ·simp [e]
  ·simp [e]
 ·have hnode:=h.node k a (rem_some e).2
  exact hnode.keep hk (blk_ne_map hnode.blk ho) (h.ne.2 k a (rem_some e).2).1 (fun g cs hg=>piece_ne hg ho)
/-- A new node. -/
theorem FlsB.put_ [Fence] {c n : Nat} {w V w' : World} {f b m : Nat} {own : Int → Own} {fs : FS} (h : FlsB c w f b m own fs) (hb : Below w.heap.size w V) (ino : Int) (o : Own) (a : NodeA) (hg : w.heap.size ≤ o.g) (hab : w.heap.size ≤ o.ab) (hN : NodeO c V o a) (hk : Keep (fun i=>i = b) V w') (hn : n ≤ c + 1) (hm : MapI Tryz.prog 3 w' b (fun k=>(upd fs.N ino a k).map fun _=>ptrG (ownU own ino o k).g) n) :
 FlsB (c + 1) w' f b m (ownU own ino o) { fs with N:=upd fs.N ino a } ∧ KeepF w w':=by
 have hV:=h.below hb
 obtain ⟨n1,x1,y1⟩:=h.nodes
 obtain ⟨n2,x2,y2⟩:=h.names
 obtain ⟨n3,x3,y3⟩:=hV.nodes
 obtain ⟨n4,x4,y4⟩:=hV.names
 obtain ⟨es,cl,ho⟩:=y3.obj
 have hnew : ∀ k z,fs.N k = some z → (own k).g ≠ o.g ∧ (own k).ab ≠ o.ab:=fun k z e=>by
  have hz:=h.node k z e
  obtain ⟨an,_,y⟩:=hz.att
  have l1:=hz.blk.lt
  have l2:=y.lt
  omega
 refine ⟨⟨hV.blk.keep hk (blk_ne_map hV.blk ho),⟨n,hn,hm⟩,⟨n4,by omega,y4.keep hk (fun e=>h.ne.1 e.symm)⟩,fun k z e=>?_,fun j k x y hjk hj hk'=>?_,⟨h.ne.1,fun k z e=>?_⟩,h.wf,h.lo.1,fun k z e=>?_⟩,KeepF.after hb (KeepF.of_map h.lo.1.2.1 ho hk)⟩
 ·have e : upd fs.N ino a k = some z:=e
  unfold upd at e
  unfold ownU
  by_cases hk1 : k = ino
  ·rw [if_pos hk1] at e; cases e
   rw [if_pos hk1]
   have hbb:=y1.lt
   exact (hN.keep hk (blk_ne_map hN.blk ho) (by omega) (fun g cs hg=>piece_ne hg ho)).more (Nat.le_succ c)
  ·rw [if_neg hk1] at e
   rw [if_neg hk1]
   have hz:=hV.node k z e
   exact (hz.keep hk (blk_ne_map hz.blk ho) (h.ne.2 k z e).1 (fun g cs hg=>piece_ne hg ho)).more (Nat.le_succ c)
 ·have hj : upd fs.N ino a j = some x:=hj
  have hk' : upd fs.N ino a k = some y:=hk'
  unfold upd at hj hk'
  unfold ownU
  by_cases h1 : j = ino
  ·rw [if_pos h1]
   have h2 : ¬ k = ino:=fun e=>hjk (h1.trans e.symm)
   rw [if_neg h2] at hk' ⊢
   obtain ⟨q1,q2⟩:=hnew k y hk'
   exact ⟨q1.symm,q2.symm⟩
  ·rw [if_neg h1] at hj ⊢
   by_cases h2 : k = ino
   ·rw [if_pos h2]
    exact hnew j x hj
   ·rw [if_neg h2] at hk' ⊢
    exact h.apart j k x y hjk hj hk'
 ·have e : upd fs.N ino a k = some z:=e
  unfold upd at e
  unfold ownU
  by_cases hk1 : k = ino
  ·rw [if_pos hk1]
   have hbb:=y1.lt
   have hmm:=y2.lt
   omega
  ·rw [if_neg hk1] at e ⊢
   exact h.ne.2 k z e
 ·have e : upd fs.N ino a k = some z:=e
  unfold upd at e
  unfold ownU
  by_cases hk1 : k = ino
  ·rw [if_pos hk1]
   have hfl:=h.blk.lt
   have hlo:=h.lo.1.1
   omega
  ·rw [if_neg hk1] at e ⊢
   exact h.lo.2 k z e
end Go.Proofs.YtpboohfofodeeaaGreatDoor
/- files: put, away (conditions: none). -/
namespace Go.Proofs.YtpboohfofodeeaaGreatDoor
open Go.RowKit Go.Maps
noncomputable def putG (fs : FS) (s : SlotK) (ino : Int) : FS:={ fs with G:=updK fs.G s ino }
theorem putG_wf {fs : FS} {s : SlotK} {ino : Int} (h : ∀ s i,fs.G s = some i → (Lit.int .i64 i).wf = true) (hi : (Lit.int .i64 ino).wf = true) : ∀ s' i,updK fs.G s ino s' = some i → (Lit.int .i64 i).wf = true:=fun s' i e=>by
 unfold updK at e
 by_cases h1 : s' = s
 ·rw [if_pos h1] at e; cases e; exact hi
 ·rw [if_neg h1] at e; exact h s' i e
theorem putG_names {fs : FS} {s : SlotK} {ino : Int} (h : namesOk fs) (hs : s.1.2.size ≤ 255) : namesOk (putG fs s ino):=fun s' i e=>by
 have e : updK fs.G s ino s' = some i:=e
 unfold updK at e
 by_cases h1 : s' = s
 ·rw [h1]; exact hs
 ·rw [if_neg h1] at e; exact h s' i e
def PutEnds [Fence] (c : Nat) (w : World) (f b m : Nat) (own : Int → Own) (fs' : FS) (e : Ending) (w' : World) : Prop:=
 (∃ er : Int,e = .returned (.int .i64 er) ∧ ((er = 120 ∧ longS fs') ∨ (er = 0 ∧ ¬ longS fs'))) ∧ FlsB (c + 1) w' f b m own fs' ∧ KeepF w w'
set_option maxRecDepth 100000 in
set_option maxHeartbeats 2000000 in
theorem fw_put [Fence] {c : Nat} {w : World} {f b m : Nat} {own : Int → Own} {fs : FS} (h : FlsB c w f b m own fs) (hn : namesOk fs) (sl : SlotK) (hsl : sl.1.2.size ≤ 255) (ino : Int) (hi : (Lit.int .i64 ino).wf = true) (hc : c < 1099511627776) :
 Calls Tryz.prog 106 #[wkV f,slotV sl.1.1 sl.1.2,.int .i64 ino] w (PutEnds c w f b m own (putG fs sl ino)):=by
 have hb0 : Below w.heap.size w ((w.alloc (.cells #[Pa f] 78)).alloc (.cells #[.int .i64 sl.1.1,.string sl.1.2] 96)):=((Below.refl _ _).alloc (Nat.le_refl _) _).alloc (by simp) _
 have hF:=h.below hb0
 have hW:=(Blk.new w 78 #[Pa f]).alloc (.cells #[.int .i64 sl.1.1,.string sl.1.2] 96)
 have hS:=Blk.new (w.alloc (.cells #[Pa f] 78)) 96 #[.int .i64 sl.1.1,.string sl.1.2]
 have e1 : (w.alloc (.cells #[Pa f] 78)).heap.size = w.heap.size + 1:=by simp
 rw [e1] at hS
 have d0 : ((w.alloc (.cells #[Pa f] 78)).alloc (.cells #[.int .i64 sl.1.1,.string sl.1.2] 96)).cell? ⟨w.heap.size,0,none⟩ = some (Pa f):=hW.cell 0
 have s0 : ((w.alloc (.cells #[Pa f] 78)).alloc (.cells #[.int .i64 sl.1.1,.string sl.1.2] 96)).cell? ⟨w.heap.size + 1,0,none⟩ = some (.int .i64 sl.1.1):=hS.cell 0
 have s1 : ((w.alloc (.cells #[Pa f] 78)).alloc (.cells #[.int .i64 sl.1.1,.string sl.1.2] 96)).cell? ⟨w.heap.size + 1,1,none⟩ = some (.string sl.1.2):=hS.cell 1
 have d2 : ((w.alloc (.cells #[Pa f] 78)).alloc (.cells #[.int .i64 sl.1.1,.string sl.1.2] 96)).cell? ⟨f,2,none⟩ = some (.map (some m)):=hF.blk.cell 2
 have HF:=Lib.hid (hF.below (Below.refl _ _).drew)
 have HW:=Lib.hid hW
 have HB0:=Lib.hid hb0
 have HN:=Lib.hid (putG_names (ino:=ino) hn hsl)
 have HWF:=Lib.hid (putG_wf (s:=sl) h.wf hi)
 unfold wkV slotV
 clear h hF hW hS hb0 e1 hn
 go_enter Tryz.func106,Tryz.ntmps106
 go_upto_region 1 with fail
 generalize (w.alloc (.cells #[Pa f] 78)).alloc (.cells #[.int .i64 sl.1.1,.string sl.1.2] 96) = w1 at *
 obtain ⟨n2,x2,y2⟩:=HF.out.names
 have HM:=Lib.hid y2
 clear y2
 refine wp_region_quiet_tail 7 (by kernel_rfl) (by kernel_rfl) ?_
 simp only [List.take_succ_cons,List.take_zero,List.drop_succ_cons,List.drop_zero]
 repeat (go_big_quiet_step (fail))
 refine wpQuiet_nil ?_
 clear d0 s0 s1 d2
 go_wp2_with (first
  |(at_mapUpdate
    refine wpList_mapK_store _ rfl _ _ _ 89 rfl 3 slot_enc Tryz.underlying89 rfl HM.out ?c1 sl trivial (.int .i64 ino) rfl rfl ?_
    case c1=>unfold maxLen; omega
    intro w3 hm3 hk3 hs3
    have hq:=HF.out.names_ (updK fs.G sl ino) HWF.out hk3 (n:=if (nmV fs.G sl).isSome = true then n2 else n2 + 1) (by split <;> omega) (by rw [← nmV_upd]; exact hm3)
    have hkf : KeepF w w3:=KeepF.after HB0.out (KeepF.after (Below.refl _ _).drew hq.2)
    have d03 : w3.cell? ⟨w.heap.size,0,none⟩ = some (Pa f):=(KeepF.blk (KeepF.after (Below.refl w1.heap.size w1).drew hq.2) HW.out (by decide) (by decide)).cell 0
    have hL:=Lib.hid (fw_long hq.1 HN.out (by omega))
    have HQ:=Lib.hid hq.1
    have HKF:=Lib.hid hkf
    unfold wkV at hL
    clear hm3 hk3 hs3 hq hkf)
  |(go_at_call 178
    refine hL.out.mono ?_
    rintro e w4 ⟨⟨r,rfl,hr⟩,hb4⟩
    have HR:=Lib.hid hr
    have HB4:=Lib.hid hb4
    clear hr hb4
    rcases Bool.eq_false_or_eq_true r with hrt | hrt <;> subst hrt))
 ·have hr:=HR.out.1 (by first | rfl | trivial)
  go_ret
  exact ⟨⟨120,rfl,.inl ⟨rfl,hr⟩⟩,HQ.out.below HB4.out,HKF.out.below HB4.out⟩
 ·have hr : ¬ longS (putG fs sl ino):=fun h=>by
   have:=HR.out.2 h
   cases this
  go_ret
  exact ⟨⟨0,rfl,.inr ⟨rfl,hr⟩⟩,HQ.out.below HB4.out,HKF.out.below HB4.out⟩
end Go.Proofs.YtpboohfofodeeaaGreatDoor
/- files: away (conditions: none). -/
namespace Go.Proofs.YtpboohfofodeeaaGreatDoor
open Go.RowKit Go.Maps
theorem ownU_self (own : Int → Own) (ino : Int) : ownU own ino { own ino with v:=(own ino).v } = own:=by
 funext k
 unfold ownU
 by_cases e : k = ino
 ·subst e; rw [if_pos rfl]
 ·rw [if_neg e]
/-- One cell of an inode. -/
theorem FlsB.cell_ [Fence] {c : Nat} {w : World} {f b m : Nat} {own : Int → Own} {fs : FS} (h : FlsB c w f b m own fs) (ino : Int) (a : NodeA) (ha : fs.N ino = some a) (i : Nat) (v : Value) (nd' : ND) (hset : (nodeC a.nd (own ino).v (own ino).ab).setIfInBounds i v = nodeC nd' (own ino).v (own ino).ab) :
 FlsB c (w.setCell ⟨(own ino).g,i,none⟩ v) f b m own { fs with N:=upd fs.N ino { a with nd:=nd' } } ∧ KeepF w (w.setCell ⟨(own ino).g,i,none⟩ v):=by
 have hA:=h.node ino a ha
 have hk : Keep (fun i=>i = (own ino).g) w (w.setCell ⟨(own ino).g,i,none⟩ v):=(Keep.refl (fun i=>i = (own ino).g) w).setCell (p:=⟨(own ino).g,i,none⟩) (.inl rfl) _
 have hblk : Blk (w.setCell ⟨(own ino).g,i,none⟩ v) (own ino).g 135 (nodeC nd' (own ino).v (own ino).ab):=by rw [← hset]; exact hA.blk.set_ i v
 obtain ⟨A,q,hv,hr,hq,hb⟩:=hA.row
 obtain ⟨an,xa,ya⟩:=hA.att
 obtain ⟨es,cl,ho⟩:=ya.obj
 have hN : NodeO c (w.setCell ⟨(own ino).g,i,none⟩ v) { own ino with v:=(own ino).v } { a with nd:=nd' }:=by
  refine ⟨hblk,⟨A,q,hv,⟨hr.1,fun hn=>?_⟩,hq,fun g o' hA'=>?_⟩,hA.few,⟨an,xa,ya.keep hk (fun e=>blk_ne_map hA.blk ho e.symm)⟩⟩
  ·obtain ⟨g,o',hA',hc⟩:=hr.2 hn
   obtain ⟨cs,hcs⟩:=hb g o' hA'
   have hne : g ≠ (own ino).g:=Blk.ne_ hcs hA.blk (by decide)
   exact ⟨g,o',hA',fun j z hz=>⟨hk.cell (hc j z hz).1 hne,hk.cell (hc j z hz).2 hne⟩⟩
  ·obtain ⟨cs,hcs⟩:=hb g o' hA'
   exact ⟨cs,hcs.keep hk (Blk.ne_ hcs hA.blk (by decide))⟩
 have:=h.node_ ino a { a with nd:=nd' } ha (own ino).v hk (Nat.le_refl c) hN
 rwa [ownU_self] at this
/-- What away leaves. -/
noncomputable def awayS (fs : FS) (s : SlotK) (ino : Int) (a : NodeA) : FS:={ fs with G:=remK fs.G s,N:=if a.nd.links = 1 then rem fs.N ino else upd fs.N ino { a with nd:={ a.nd with links:=a.nd.links - 1 } } }
def spotC (d : Int) (n : ByteArray) (ino : Int) : Value:=.agg #[.int .i64 d,.string n,.int .i64 ino]
theorem nmV_rem (G : SlotK → Option Int) (s : SlotK) : remK (nmV G) s = nmV (remK G s):=by
 funext x
 unfold remK nmV
 by_cases e : x = s
 ·simp [e]
 ·simp [e]
theorem rem_upd {N : Int → Option NodeA} {ino : Int} {a : NodeA} : rem (upd N ino a) ino = rem N ino:=by
 funext x
 unfold rem upd
 by_cases e : x = ino
 ·simp [e]
 ·simp [e]
set_option maxRecDepth 100000 in
set_option maxHeartbeats 4000000 in
theorem fw_away [Fence] {c : Nat} {w : World} {f b m : Nat} {own : Int → Own} {fs : FS} (h : FlsB c w f b m own fs) (sl : SlotK) (ino : Int) (a : NodeA) (ha : fs.N ino = some a) (hi : (Lit.int .i64 ino).wf = true) (hl : 1 ≤ a.nd.links ∧ a.nd.links ≤ 1099511627776) :
 Calls Tryz.prog 110 #[wkV f,spotC sl.1.1 sl.1.2 ino] w fun e w'=>e = .returned (.tuple #[]) ∧ FlsB (c + 1) w' f b m own (awayS fs sl ino a) ∧ KeepF w w':=by
 have hb0 : Below w.heap.size w ((w.alloc (.cells #[Pa f] 78)).alloc (.cells #[.int .i64 sl.1.1,.string sl.1.2,.int .i64 ino] 119)):=((Below.refl _ _).alloc (Nat.le_refl _) _).alloc (by simp) _
 have hF:=h.below hb0
 have hW:=(Blk.new w 78 #[Pa f]).alloc (.cells #[.int .i64 sl.1.1,.string sl.1.2,.int .i64 ino] 119)
 have hS:=Blk.new (w.alloc (.cells #[Pa f] 78)) 119 #[.int .i64 sl.1.1,.string sl.1.2,.int .i64 ino]
 have e1 : (w.alloc (.cells #[Pa f] 78)).heap.size = w.heap.size + 1:=by simp
 rw [e1] at hS
 have HB0:=Lib.hid hb0
 unfold wkV spotC
 clear h hb0 e1
 go_enter Tryz.func110,Tryz.ntmps110
 go_upto_region 1 with fail
 generalize (w.alloc (.cells #[Pa f] 78)).alloc (.cells #[.int .i64 sl.1.1,.string sl.1.2,.int .i64 ino] 119) = w1 at *
 have d0 : w1.cell? ⟨w.heap.size,0,none⟩ = some (Pa f):=hW.cell 0
 have s0 : w1.cell? ⟨w.heap.size + 1,0,none⟩ = some (.int .i64 sl.1.1):=hS.cell 0
 have s1 : w1.cell? ⟨w.heap.size + 1,1,none⟩ = some (.string sl.1.2):=hS.cell 1
 have d2 : w1.cell? ⟨f,2,none⟩ = some (.map (some m)):=hF.blk.cell 2
 have HF:=Lib.hid (hF.below (Below.refl _ _).drew)
 have HW:=Lib.hid hW
 have HS:=Lib.hid hS
 clear hF hW hS
 obtain ⟨n2,x2,y2⟩:=HF.out.names
 obtain ⟨w3,hrun,hm3,hk3,hs3⟩:=y2.drop slot_enc Tryz.underlying89 sl trivial 0
 have hrun2 : (Builtin.delete_ #[89,96] 0 #[.map (some m),.agg #[.int .i64 sl.1.1,.string sl.1.2]]).run Tryz.prog w1.drew = .ok (.tuple #[]) w3:=hrun
 have hq:=HF.out.names_ (remK fs.G sl) (fun s i e=>HF.out.wf s i (by
  unfold remK at e
  by_cases h1 : s = sl
  ·rw [if_pos h1] at e; cases e
  ·rw [if_neg h1] at e; exact e)) hk3 (n:=if (nmV fs.G sl).isSome = true then n2 - 1 else n2) (by split <;> omega) (by rw [← nmV_rem]; exact hm3)
 have HKF:=Lib.hid (KeepF.after HB0.out (KeepF.after (Below.refl _ _).drew hq.2))
 have HW3:=Lib.hid (KeepF.blk (KeepF.after (Below.refl w1.heap.size w1).drew hq.2) HW.out (by decide) (by decide))
 have HS3:=Lib.hid (KeepF.blk (KeepF.after (Below.refl w1.heap.size w1).drew hq.2) HS.out (by decide) (by decide))
 have HQ:=Lib.hid hq.1
 clear hm3 hk3 hs3 hq y2 hrun
 refine wp_region_quiet_tail 7 (by kernel_rfl) (by kernel_rfl) ?_
 simp only [List.take_succ_cons,List.take_zero,List.drop_succ_cons,List.drop_zero]
 repeat (go_big_quiet_step (fail))
 refine wpQuiet_nil ?_
 clear d0 s0 s1 d2
 go_wp2
 clear hrun2
 have ha3 : ({ fs with G:=remK fs.G sl } : FS).N ino = some a:=ha
 have a0 : w3.cell? ⟨w.heap.size,0,none⟩ = some (Pa f):=HW3.out.cell 0
 have a1 : w3.cell? ⟨f,1,none⟩ = some (.map (some b)):=HQ.out.blk.cell 1
 have a2 : w3.cell? ⟨w.heap.size + 1,2,none⟩ = some (.int .i64 ino):=HS3.out.cell 2
 obtain ⟨n3,_,y3⟩:=HQ.out.nodes
 have hL : ∀ n,(Instr.lookup 88 (.map (some b)) (.int .i64 ino) false).run Tryz.prog (w3.drewN n) = .ok (.pointer (some ⟨(own ino).g,0,none⟩)) (w3.drewN n):=fun n=>by
  have:=nodes_look (w:=w3.drewN n) (y3.drewN n) ino hi
  rw [this]
  simp [ha,ptrG]
 clear y3
 go_quiet (fail)
 clear hL a0 a1 a2
 have hq4:=HQ.out.below (below_drewN (Below.refl _ _) nq)
 have g3 : (w3.drewN nq).cell? ⟨(own ino).g,3,none⟩ = some (.int .i64 a.nd.links):=(hq4.node ino a ha3).blk.cell 3
 have f3:=(hq4.node ino a ha3).blk.frozen 3
 have hc5:=hq4.cell_ ino a ha3 3 (.int .i64 (a.nd.links - 1)) { a.nd with links:=a.nd.links - 1 } rfl
 have HKF4:=Lib.hid (HKF.out.below (below_drewN (Below.refl _ _) nq))
 have HW4:=Lib.hid (HW3.out.drewN nq)
 have HS4:=Lib.hid (HS3.out.drewN nq)
 have HC5:=Lib.hid hc5
 clear hq4 hc5
 generalize w3.drewN nq = w4 at *
 have hwr : IntKind.i64.wrap (a.nd.links - 1) = a.nd.links - 1:=by rw [IntKind.wrap_i64]; omega
 by_cases hl1 : a.nd.links = 1
 ·have hz : (a.nd.links - 1 == 0) = true:=by rw [hl1]; rfl
  have hz2 : a.nd.links - 1 = 0:=by omega
  have hc:=HC5.out
  rw [hz2] at hc
  have hkw : KeepF w4 (w4.setCell ⟨(own ino).g,3,none⟩ (.int .i64 0)):=hc.2
  have hF5:=hc.1
  go_upto_region 5 with fail
  generalize w4.setCell ⟨(own ino).g,3,none⟩ (.int .i64 0) = w5 at *
  have HW5:=Lib.hid (KeepF.blk hkw HW4.out (by decide) (by decide))
  have HS5:=Lib.hid (KeepF.blk hkw HS4.out (by decide) (by decide))
  have a0 : w5.cell? ⟨w.heap.size,0,none⟩ = some (Pa f):=HW5.out.cell 0
  have a1 : w5.cell? ⟨f,1,none⟩ = some (.map (some b)):=hF5.blk.cell 1
  have a2 : w5.cell? ⟨w.heap.size + 1,2,none⟩ = some (.int .i64 ino):=HS5.out.cell 2
  have hF5d:=hF5.below (Below.refl _ _).drew
  obtain ⟨n5,x5,y5⟩:=hF5d.nodes
  obtain ⟨w6,hrun6,hm6,hk6,hs6⟩:=y5.drop Tryz.underlying3 Tryz.underlying88 ino hi 0
  have hq6:=hF5d.drop_ ino hk6 (n:=_) (by
   have : n5 ≤ c + 1:=x5
   split <;> omega) hm6
  have hq7 : FlsB (c + 1) w6 f b m own (awayS fs sl ino a):=by
   have h1:=hq6.1
   unfold awayS
   rw [if_pos hl1]
   have e : rem (upd fs.N ino { a with nd:={ a.nd with links:=0 } }) ino = rem fs.N ino:=rem_upd
   rw [← e]
   exact h1
  have HKF6:=Lib.hid ((HKF4.out.trans hkw).trans (KeepF.after (Below.refl _ _).drew hq6.2))
  have HQ7:=Lib.hid hq7
  clear hc hF5 hF5d y5 hm6 hk6 hs6 hq6 hq7 hkw
  refine wp_region_quiet_tail 7 (by kernel_rfl) (by kernel_rfl) ?_
  simp only [List.take_succ_cons,List.take_zero,List.drop_succ_cons,List.drop_zero]
  repeat (go_big_quiet_step (fail))
  refine wpQuiet_nil ?_
  clear a0 a1 a2
  go_wp2
  go_end0
  exact ⟨rfl,HQ7.out,HKF6.out⟩
 ·have hz : (a.nd.links - 1 == 0) = false:=by simp; omega
  have hz2 : ¬ a.nd.links - 1 = 0:=by omega
  go_wp2
  go_end0
  refine ⟨rfl,?_,HKF4.out.trans HC5.out.2⟩
  unfold awayS
  rw [if_neg hl1]
  exact HC5.out.1
end Go.Proofs.YtpboohfofodeeaaGreatDoor
