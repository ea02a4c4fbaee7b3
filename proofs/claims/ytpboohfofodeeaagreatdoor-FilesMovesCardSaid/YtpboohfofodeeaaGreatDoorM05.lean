/- package path: names, Split, Lead (conditions: none). -/
import Derived.Test.YtpboohfofodeeaaGreatDoorM04
import Derived.Deep.RegionHeld3
import Derived.OrdersHeld
import Derived.StillTail
import Derived.Below
namespace Go.Proofs.YtpboohfofodeeaaGreatDoor
open Go.RowKit Go.Maps
/-- The library's variable (the longest text that bytealg takes): a number. -/
def LibV (w : World) : Prop:=∃ m,w.cell? ⟨0,0,none⟩ = some (.int .i64 m)
theorem LibV.below {w w' : World} (h : LibV w) (hb : Below w.heap.size w w') : LibV w':=h.imp fun _ hm=>keepc' hb hm
/-- A text cut at every slash. -/
def cutL (s : ByteArray) : List ByteArray:=Lib.splitB ⟨#[47]⟩ 0 (Lib.countB s ⟨#[47]⟩) s
theorem cutL_length (s : ByteArray) : (cutL s).length = Lib.countB s ⟨#[47]⟩ + 1:=Lib.splitB_all _ (by simp [ByteArray.size]) 0 _ s rfl
theorem splitB_size (sep : ByteArray) : ∀ (k : Nat) (s : ByteArray),∀ x ∈ Lib.splitB sep 0 k s,x.size ≤ s.size
 | 0,s,x,hx=>by simp [Lib.splitB] at hx; subst hx; exact Nat.le_refl _
 | k + 1,s,x,hx=>by
  unfold Lib.splitB at hx
  split at hx
  ·simp at hx; subst hx; exact Nat.le_refl _
  ·rcases List.mem_cons.1 hx with rfl | hx
   ·rw [ByteArray.size_extract]; omega
   ·have:=splitB_size sep k _ x hx
    rw [ByteArray.size_extract] at this; omega
theorem cutL_size (s : ByteArray) : ∀ x ∈ cutL s,x.size ≤ s.size:=splitB_size _ _ s
theorem cutL_le (s : ByteArray) : (cutL s).length ≤ s.size + 1:=by
 rw [cutL_length]
 have:=Lib.countB_le ⟨#[47]⟩ (by simp [ByteArray.size]) s.size s (Nat.le_refl _)
 omega
theorem cutL_cons (s : ByteArray) : ∃ x t,cutL s = x :: t:=by
 have h:=cutL_length s
 cases hc : cutL s with
 | nil=>rw [hc] at h; simp at h
 | cons x t=>exact ⟨x,t,rfl⟩
/-- strings.Split at a slash: a new list. -/
theorem st_split (s : ByteArray) (w : World) (hl : LibV w) (hs : s.size ≤ 4294967280) : Calls Tryz.prog 172 #[.string s,.string ⟨#[47]⟩] w fun e w'=>
 ∃ b,e = .returned (.slice (some ⟨b,0,none⟩) (cutL s).length (cutL s).length) ∧ w.heap.size ≤ b ∧ RdV w' (some ⟨b,0,none⟩) (cutL s).length (strV (cutL s)) ∧ Below w.heap.size w w':=by
 obtain ⟨m,hm⟩:=hl
 refine (Tryz.strings_Split s ⟨#[47]⟩ m w (by omega) hm (by simp [ByteArray.size])).mono ?_
 rintro e w' ⟨rfl,rfl⟩
 refine ⟨w.heap.size,by rw [cutL_length],Nat.le_refl _,?_,(Below.refl _ _).alloc (Nat.le_refl _) _⟩
 have h:=RdV.of_blk (Blk.new w 9 ((cutL s).map Value.string).toArray)
 show RdV (w.alloc (.cells ((cutL s).map Value.string).toArray 9)) _ _ _
 simpa only [strV,List.size_toArray,List.length_map] using h
theorem st_cut (s p : ByteArray) (w : World) : Calls Tryz.prog 171 #[.string s,.string p] w fun e w'=>
 e = .returned (.tuple #[.string ⟨(Lib.trimPrefix s.data.toList p.data.toList).toArray⟩,.bool (Lib.hasPrefix s.data.toList p.data.toList)]) ∧ w' = w:=Tryz.strings_CutPrefix s p w
/-- What a path's text names: its names from the tree's root, or 120. -/
def splitP (s : ByteArray) : List ByteArray × Int:=
 if s.toList == [47] then ([],0)
 else if !(Lib.hasPrefix s.data.toList [47]) || decide (1023 < s.size) then ([],120)
 else let t:=cutL ⟨(Lib.trimPrefix s.data.toList [47]).toArray⟩
  if decide (32 < t.length) || t.any (fun x=>!nameB x) then ([],120) else (t,0)
/-- A list of texts in memory, as a function gives it back: new, or nil. -/
def NewL (w w' : World) (A : Option Addr) (n : Nat) (xs : List ByteArray) : Prop:=RdV w' A n (strV xs) ∧ (n = 0 ∧ A = none ∨ ∃ b,A = some ⟨b,0,none⟩ ∧ w.heap.size ≤ b)
def NamesEnds (w : World) (r : List ByteArray × Int) (e : Ending) (w' : World) : Prop:=∃ A n,e = .returned (.tuple #[.slice A n n,.int .i64 r.2]) ∧ NewL w w' A n r.1
theorem NewL.nil_ (w w' : World) : NewL w w' none 0 []:=⟨RdV.nil_ _ _,.inl ⟨rfl,rfl⟩⟩
theorem NewL.below {w w1 w2 : World} {A : Option Addr} {n : Nat} {xs : List ByteArray} (h : NewL w w1 A n xs) (hb : Below w1.heap.size w1 w2) : NewL w w2 A n xs:=⟨h.1.below hb,h.2⟩
theorem trim_size (l p : List UInt8) : (Lib.trimPrefix l p).length ≤ l.length:=by
 unfold Lib.trimPrefix
 split <;> simp
theorem rd_first {w : World} {b n : Nat} {cl t : List ByteArray} {x : ByteArray} (h : RdV w (some ⟨b,0,none⟩) n (strV cl)) (hn : 0 < n) (he : cl = x :: t) : w.cell? ⟨b,0,none⟩ = some (.string x):=by
 obtain ⟨ad,e,hc⟩:=h.2 hn
 obtain rfl:=Option.some.inj e
 exact hc 0 _ (by rw [he]; rfl)
theorem rd_rest {w : World} {b n : Nat} {cl t : List ByteArray} {x : ByteArray} (h : RdV w (some ⟨b,0,none⟩) n (strV cl)) (hn : 0 < n) (he : cl = x :: t) : RdV w (some ⟨b,1,none⟩) t.length (strV t):=by
 refine ⟨by simp [strV],fun _=>⟨_,rfl,fun j u hu=>?_⟩⟩
 obtain ⟨ad,e,hc⟩:=h.2 hn
 obtain rfl:=Option.some.inj e
 have e2 : (⟨b,1,none⟩ : Addr).add j = (⟨b,0,none⟩ : Addr).add (j + 1):=by
  unfold Addr.add
  by_cases hj : j = 0 <;> simp [hj,Nat.add_comm]
 rw [e2]
 exact hc (j + 1) u (by rw [he]; exact hu)
theorem rd_none {w : World} {A B : Option Addr} {n : Nat} {xs : List Value} (h : RdV w A n xs) (hn : n = 0) : RdV w B 0 xs:=⟨h.1.trans hn,fun h=>absurd h (by omega)⟩
theorem NewL.of_new {w w' : World} {b n : Nat} {xs : List ByteArray} (h : RdV w' (some ⟨b,0,none⟩) n (strV xs)) (hb : w.heap.size ≤ b) : NewL w w' (some ⟨b,0,none⟩) n xs:=⟨h,.inr ⟨b,rfl,hb⟩⟩
theorem ends_nil {w w' : World} {r : List ByteArray × Int} {c : Int} (h : r = ([],c)) : NamesEnds w r (.returned (.tuple #[.slice none 0 0,.int .i64 c])) w':=by
 subst h
 exact ⟨none,0,rfl,NewL.nil_ w w'⟩
theorem ends_new {w w' : World} {r : List ByteArray × Int} {A : Option Addr} {n : Nat} {c : Int} {xs : List ByteArray} {k : Nat} (h : r = (xs,c)) (hn : NewL w w' A n xs) (hk : n = k) : NamesEnds w r (.returned (.tuple #[.slice A k k,.int .i64 c])) w':=by
 subst h hk
 exact ⟨A,n,rfl,hn⟩
set_option maxRecDepth 100000 in
theorem pt_split (s : ByteArray) (w : World) (hl : LibV w) (hs : s.size ≤ 140737488351232) :
 Calls Tryz.prog 50 #[.string s] w fun e w'=>NamesEnds w (splitP s) e w' ∧ Below w.heap.size w w':=by
 suffices HS : Calls Tryz.prog 101 #[.string s,.int .i64 1023,.func (Fn.func 52) #[] #[]] w fun e w'=>NamesEnds w (splitP s) e w' ∧ Below w.heap.size w w' by
  have HS:=Lib.hid HS
  go_enter Tryz.func50,Tryz.ntmps50
  go_wp2_with (go_at_call 101; refine HS.out.mono ?_; rintro e w' ⟨⟨A,n,rfl,hn⟩,hb⟩; have HN:=Lib.hid hn; clear hn)
  go_ret2
  exact ⟨⟨A,n,rfl,HN.out⟩,hb⟩
 have HL:=Lib.hid hl
 have HC:=fun W=>Lib.hid (st_cut s ⟨#[47]⟩ W)
 have hsp : splitP s = if s.toList == [47] then ([],0)
  else if !(Lib.hasPrefix s.data.toList [47]) || decide (1023 < s.size) then ([],120)
  else let t:=cutL ⟨(Lib.trimPrefix s.data.toList [47]).toArray⟩
   if decide (32 < t.length) || t.any (fun x=>!nameB x) then ([],120) else (t,0):=rfl
 have hts:=trim_size s.data.toList [47]
 have hsz : s.data.toList.length = s.size:=by simp
 rw [hsz] at hts
 have hpp : (⟨#[47]⟩ : ByteArray).data.toList = [47]:=rfl
 simp only at HC
 generalize hr : (⟨(Lib.trimPrefix s.data.toList [47]).toArray⟩ : ByteArray) = rest at HC hsp
 have hrs : rest.size ≤ s.size:=by rw [← hr]; exact hts
 clear hr hts hsz hl
 generalize Lib.hasPrefix s.data.toList [47] = ok at HC hsp
 have HSP:=Lib.hid hsp
 clear hsp
 obtain ⟨x,t,hxt⟩:=cutL_cons rest
 have HXT:=Lib.hid hxt
 have hlen:=cutL_le rest
 have HT:=fun W (h : LibV W) (h2 : rest.size ≤ 4294967280)=>Lib.hid (st_split rest W h h2)
 have HSZ:=Lib.hid (cutL_size rest)
 generalize hcl : cutL rest = cl at HT hlen hxt HXT HSP HSZ
 clear hcl
 have hx:=HSZ.out x (by rw [hxt]; simp)
 have HF:=fun W=>Lib.hid (pt_name x W (by omega))
 have hll : cl.length = t.length + 1:=by rw [hxt]; rfl
 generalize hnl : cl.length = nl at HT hlen hll
 have HNL:=Lib.hid hnl
 obtain ⟨an,han⟩ : ∃ an,t.any (fun x=>!nameB x) = an:=⟨_,rfl⟩
 have HAN:=Lib.hid han
 have HSP2 : Hid (splitP s = if s.toList == [47] then ([],0) else if !ok || decide ((1023 : Int) < s.size) then ([],120) else if decide ((32 : Int) < (t.length : Int) + 1) || (!nameB x || an) then ([],120) else (cl,0)):=by
  have h : splitP s = if s.toList == [47] then ([],0) else if !ok || decide (1023 < s.size) then ([],120) else if decide (32 < cl.length) || cl.any (fun x=>!nameB x) then ([],120) else (cl,0):=HSP.out
  rw [hxt] at h ⊢
  have e1 : decide (1023 < s.size) = decide ((1023 : Int) < s.size):=decide_eq_decide.2 (by omega)
  have e2 : decide (32 < (x :: t).length) = decide ((32 : Int) < (t.length : Int) + 1):=decide_eq_decide.2 (by simp only [List.length_cons]; omega)
  rw [e1,e2,List.any_cons,han] at h
  exact h
 clear hxt hnl han
 go_enter Tryz.func101,Tryz.ntmps101
 go_wp2_with first
  |(go_at_call 171; refine (HC _).out.mono ?_; rintro e w' ⟨rfl,rfl⟩)
  |(go_at_call 172; refine (HT _ HL.out (by omega)).out.mono ?_; rintro e w' ⟨b,rfl,hb,hR,hbl⟩; have HB:=Lib.hid hb; have HR:=Lib.hid hR; have HBL:=Lib.hid hbl; have hc0 : w'.cell? ⟨b,0,none⟩ = some (.string x):=rd_first hR (by omega) HXT.out; have H1:=Lib.hid (rd_rest hR (by omega) HXT.out); have hnew:=NewL.of_new hR hb; have HNEW:=Lib.hid hnew; clear hb hR hbl hnew)
  |(go_at_call 52; refine (HF _).out.mono ?_; rintro e w' ⟨rfl,hb2⟩; have HB2:=Lib.hid hb2; have H2:=Lib.hid (H1.out.below hb2); clear hb2)
 case' inl=>refine (sl_containsFunc (M:=140737488351232) (xs:=t) (rd_none H2.out (by first | omega | (simp only [*]; rfl) | (trace_state; omega))) (fun y hy=>Nat.le_trans (HSZ.out y (by rw [HXT.out]; exact List.mem_cons_of_mem _ hy)) (by omega)) (pt_notName _ (Nat.le_refl _)) (by omega)).mono ?_; rintro e w'' ⟨e1,hb3⟩; rw [HAN.out] at e1; subst e1; have HB3:=Lib.hid (bl_t HB2.out hb3); have HB4:=Lib.hid (bl_t HBL.out HB3.out); clear hb3
 case' inr=>refine (sl_containsFunc (M:=140737488351232) (xs:=t) (H2.out) (fun y hy=>Nat.le_trans (HSZ.out y (by rw [HXT.out]; exact List.mem_cons_of_mem _ hy)) (by omega)) (pt_notName _ (Nat.le_refl _)) (by omega)).mono ?_; rintro e w'' ⟨e1,hb3⟩; rw [HAN.out] at e1; subst e1; have HB3:=Lib.hid (bl_t HB2.out hb3); have HB4:=Lib.hid (bl_t HBL.out HB3.out); clear hb3
 all_goals go_wp2
 all_goals go_ret2
 all_goals first
  | exact ⟨ends_nil (by rw [HSP2.out]; simp [*]),Below.refl _ _⟩
  | exact ⟨ends_nil (by rw [HSP2.out]; simp [*]),HBL.out⟩
  | exact ⟨ends_nil (by rw [HSP2.out]; simp [*]),bl_t HBL.out HB2.out⟩
  | exact ⟨ends_nil (by rw [HSP2.out]; simp [*]),HB4.out⟩
  | exact ⟨ends_new (by rw [HSP2.out]; first | (simp [*]; done) | (rw [decide_eq_false (p:=(1023 : Int) < (s.size : Int)) (by omega),decide_eq_false (p:=(32 : Int) < (t.length : Int) + 1) (by omega)]; simp [*]; done)) (HNEW.out.below HB3.out) (by first | exact hll | (rw [hll]; simp [*])),HB4.out⟩
  | skip
end Go.Proofs.YtpboohfofodeeaaGreatDoor
/- package path: Lead (conditions: none). -/
namespace Go.Proofs.YtpboohfofodeeaaGreatDoor
open Go.RowKit Go.Maps
def leadB (s : ByteArray) : Bool:=!(s.toList == [46,46]) && !nameB s
/-- What a symlink's target leads to: names, whether from the root, status. -/
def leadP (s : ByteArray) : List ByteArray × Bool × Int:=
 if !targetB s then ([],false,120)
 else if bt s 0 == 47 then ((splitP s).1,(splitP s).2 == 0,(splitP s).2)
 else if decide (32 < (cutL s).length) || (cutL s).any leadB then ([],false,120) else (cutL s,false,0)
def LeadEnds (w : World) (r : List ByteArray × Bool × Int) (e : Ending) (w' : World) : Prop:=∃ A n,e = .returned (.tuple #[.slice A n n,.bool r.2.1,.int .i64 r.2.2]) ∧ NewL w w' A n r.1
theorem lead_nil {w w' : World} {r : List ByteArray × Bool × Int} {c : Int} {b : Bool} (h : r = ([],b,c)) : LeadEnds w r (.returned (.tuple #[.slice none 0 0,.bool b,.int .i64 c])) w':=by
 subst h
 exact ⟨none,0,rfl,NewL.nil_ w w'⟩
theorem lead_new {w w' : World} {r : List ByteArray × Bool × Int} {A : Option Addr} {n : Nat} {c : Int} {b : Bool} {xs : List ByteArray} (h : r = (xs,b,c)) (hn : NewL w w' A n xs) : LeadEnds w r (.returned (.tuple #[.slice A n n,.bool b,.int .i64 c])) w':=by
 subst h
 exact ⟨A,n,rfl,hn⟩
theorem target_pos {s : ByteArray} (h : targetB s = true) : 0 < s.size:=by
 unfold targetB at h
 simp only [Bool.and_eq_true,Bool.not_eq_true'] at h
 rcases Nat.eq_zero_or_pos s.size with h0 | h0
 ·have:=h.1
  rw [List.isEmpty_eq_false_iff] at this
  exact absurd ((toList_nil s).mpr h0) this
 ·exact h0
set_option maxRecDepth 100000 in
theorem pt_lead (s : ByteArray) (w : World) (hl : LibV w) (hs : s.size ≤ 4294967280) :
 Calls Tryz.prog 104 #[.string s] w fun e w'=>LeadEnds w (leadP s) e w' ∧ Below w.heap.size w w':=by
 have hlp : leadP s = if !targetB s then ([],false,120)
  else if bt s 0 == 47 then ((splitP s).1,(splitP s).2 == 0,(splitP s).2)
  else if decide (32 < (cutL s).length) || (cutL s).any leadB then ([],false,120) else (cutL s,false,0):=rfl
 have HL:=Lib.hid hl
 have HT : Hid (∀ W,Calls Tryz.prog 51 #[.string s] W fun e w'=>e = .returned (.bool (targetB s)) ∧ w' = W):=Lib.hid fun W=>(pt_target s W (by omega)).mono fun _ _ ⟨a,b⟩=>⟨a,b.symm⟩
 have HX : Hid (∀ W,0 < s.size → (Instr.index 9 (.string s) (.int .i64 0)).run Tryz.prog W = .ok (.int .u8 (bt s 0)) W):=Lib.hid fun W h=>ix_string s 0 h W
 have HTP : Hid (targetB s = true → 0 < s.size):=Lib.hid target_pos
 have HSP : Hid (∀ W,LibV W → Calls Tryz.prog 50 #[.string s] W fun e w'=>NamesEnds W (splitP s) e w' ∧ Below W.heap.size W w'):=Lib.hid fun W h=>pt_split s W h (by omega)
 have HC : Hid (∀ W,LibV W → Calls Tryz.prog 172 #[.string s,.string ⟨#[47]⟩] W fun e w'=>
  ∃ b,e = .returned (.slice (some ⟨b,0,none⟩) (cutL s).length (cutL s).length) ∧ W.heap.size ≤ b ∧ RdV w' (some ⟨b,0,none⟩) (cutL s).length (strV (cutL s)) ∧ Below W.heap.size W w'):=Lib.hid fun W h=>st_split s W h (by omega)
 have hlen:=cutL_le s
 have HSZ:=Lib.hid (cutL_size s)
 generalize hcl : cutL s = cl at HC hlen HSZ hlp
 clear hcl
 generalize hsp : splitP s = sp at HSP hlp
 clear hsp
 obtain ⟨spl,sps⟩:=sp
 generalize hnl : cl.length = nl at HC hlen hlp
 clear hnl
 generalize htb : targetB s = tb at HT HTP hlp
 clear htb
 generalize bt s 0 = b0 at HX hlp
 generalize han : cl.any leadB = an at hlp
 have HAN:=Lib.hid han
 clear han
 have e2 : decide (32 < nl) = decide ((32 : Int) < (nl : Int)):=decide_eq_decide.2 (by omega)
 rw [e2] at hlp
 have HLP:=Lib.hid hlp
 clear hl hlp e2
 cases tb
 ·go_enter Tryz.func104,Tryz.ntmps104
  go_wp2_with (go_at_call 51; refine (HT.out _).mono ?_; rintro e w' ⟨rfl,rfl⟩)
  go_ret3
  exact ⟨lead_nil HLP.out,Below.refl _ _⟩
 have hx:=fun W=>HX.out W (HTP.out rfl)
 go_enter Tryz.func104,Tryz.ntmps104
 go_wp2_with first
  |(go_at_call 51; refine (HT.out _).mono ?_; rintro e w' ⟨rfl,rfl⟩)
  |(go_at_call 50; refine (HSP.out _ HL.out).mono ?_; rintro e w' ⟨⟨A,n,rfl,hn⟩,hb⟩; have HN:=Lib.hid hn; have HB:=Lib.hid hb; clear hn hb)
  |(go_at_call 172; refine (HC.out _ HL.out).mono ?_; rintro e w' ⟨b,rfl,hb,hR,hbl⟩; have HR:=Lib.hid hR; have HB:=Lib.hid hbl; have HNEW:=Lib.hid (NewL.of_new hR hb); clear hb hR hbl)
  |(go_at_call 173; refine (sl_containsFunc (M:=4294967280) HR.out (fun y hy=>Nat.le_trans (HSZ.out y hy) (by omega)) (pt_notLead _ (by omega)) (by omega)).mono ?_; rintro e w'' ⟨e1,hb3⟩; rw [show cl.any (fun s=>!(s.toList == [46,46]) && !nameB s) = an from HAN.out] at e1; subst e1; have HB3:=Lib.hid hb3; have HB4:=Lib.hid (bl_t HB.out hb3); clear hb3)
 all_goals go_ret3
 all_goals first
  | exact ⟨lead_new (by rw [HLP.out]; simp [*]; done) HN.out,HB.out⟩
  | exact ⟨lead_nil (by rw [HLP.out]; simp [*]; done),HB.out⟩
  | exact ⟨lead_nil (by rw [HLP.out]; simp [*]; done),HB4.out⟩
  | exact ⟨lead_new (by rw [HLP.out,decide_eq_false (p:=(32 : Int) < (nl : Int)) (by omega)]; simp [*]; done) (HNEW.out.below HB3.out),HB4.out⟩
  | skip
end Go.Proofs.YtpboohfofodeeaaGreatDoor
/- inode.Check (conditions: none). -/
namespace Go.Proofs.YtpboohfofodeeaaGreatDoor
open Go.RowKit Go.Maps
/-- An inode. -/
structure ND where
 kind : Int
 mode : Int
 time : Int
 links : Int
 size : Int
 target : ByteArray
def ND.cs (n : ND) : Array Value:=#[.int .i64 n.kind,.int .i64 n.mode,.int .i64 n.time,.int .i64 n.links,.int .i64 n.size,.string n.target]
def ND.val (n : ND) : Value:=.agg n.cs
/-- Is an inode right? -/
def ND.right (n : ND) : Prop:=1 ≤ n.links ∧ n.links ≤ 1099511627776 ∧ 0 ≤ n.mode ∧ n.mode ≤ 4095 ∧
 (n.kind = 1 ∧ 0 ≤ n.size ∧ n.size ≤ 4611686018427387904 ∧ n.target.size = 0 ∨ n.kind = 2 ∧ n.links = 1 ∧ n.size = 0 ∧ n.target.size = 0 ∨ n.kind = 3 ∧ n.size = 0 ∧ targetB n.target = true)
def CheckEnds (n : ND) (e : Ending) : Prop:=e = .returned (.int .i64 0) ∧ n.right ∨ e = .returned (.int .i64 1) ∧ ¬ n.right
theorem check_yes {n : ND} (h : n.right) : CheckEnds n (.returned (.int .i64 0)):=.inl ⟨rfl,h⟩
theorem check_no {n : ND} (h : ¬ n.right) : CheckEnds n (.returned (.int .i64 1)):=.inr ⟨rfl,h⟩
section
variable {kind mode time links size : Int} {target : ByteArray}
theorem right3 : (ND.mk 3 mode time links size target).right ↔ 1 ≤ links ∧ links ≤ 1099511627776 ∧ 0 ≤ mode ∧ mode ≤ 4095 ∧ size = 0 ∧ targetB target = true:=by unfold ND.right; simp
theorem right1 : (ND.mk 1 mode time links size target).right ↔ 1 ≤ links ∧ links ≤ 1099511627776 ∧ 0 ≤ mode ∧ mode ≤ 4095 ∧ 0 ≤ size ∧ size ≤ 4611686018427387904 ∧ target.size = 0:=by unfold ND.right; simp
theorem right2 : (ND.mk 2 mode time links size target).right ↔ 1 ≤ links ∧ links ≤ 1099511627776 ∧ 0 ≤ mode ∧ mode ≤ 4095 ∧ links = 1 ∧ size = 0 ∧ target.size = 0:=by unfold ND.right; simp
theorem right0 (h1 : kind ≠ 1) (h2 : kind ≠ 2) (h3 : kind ≠ 3) : ¬ (ND.mk kind mode time links size target).right:=by unfold ND.right; simp [h1,h2,h3]
end
set_option maxRecDepth 100000 in
set_option maxHeartbeats 4000000 in
theorem in_check3 (mode time links size : Int) (target : ByteArray) (w : World) (hs : target.size ≤ 140737488351232) :
 Calls Tryz.prog 119 #[.agg #[.int .i64 3,.int .i64 mode,.int .i64 time,.int .i64 links,.int .i64 size,.string target]] w fun e w'=>CheckEnds ⟨3,mode,time,links,size,target⟩ e ∧ Below w.heap.size w w':=by
 have HT : Hid (∀ W,Calls Tryz.prog 51 #[.string target] W fun e w'=>e = .returned (.bool (targetB target)) ∧ w' = W):=Lib.hid fun W=>(pt_target target W hs).mono fun _ _ ⟨a,b⟩=>⟨a,b.symm⟩
 have hr:=right3 (mode:=mode) (time:=time) (links:=links) (size:=size) (target:=target)
 generalize targetB target = tb at HT hr
 have HR:=Lib.hid hr
 clear hr
 go_enter Tryz.func119,Tryz.ntmps119
 go_wp2_with (go_at_call 51; refine (HT.out _).mono ?_; rintro e w' ⟨rfl,rfl⟩)
 all_goals go_ret
 all_goals simp only at *
 all_goals
  refine ⟨by first | exact check_yes (HR.out.2 ⟨by omega,by omega,by omega,by omega,by omega,by assumption⟩) | exact check_no (fun h=>by have:=HR.out.1 h; obtain ⟨a1,a2,a3,a4,a5,h6⟩:=this; first | omega | exact absurd h6 (by assumption)),?_⟩
  ·repeat first
    | exact Below.refl _ _
    | refine Below.setCell ?_ (by first | (simp; done) | (simp; omega)) _
    | refine Below.alloc ?_ (by first | (simp; done) | (simp; omega)) _
    | refine Below.drewN ?_ _
    | refine Below.drew ?_
set_option maxRecDepth 100000 in
set_option maxHeartbeats 4000000 in
theorem in_check1 (mode time links size : Int) (target : ByteArray) (w : World) :
 Calls Tryz.prog 119 #[.agg #[.int .i64 1,.int .i64 mode,.int .i64 time,.int .i64 links,.int .i64 size,.string target]] w fun e w'=>CheckEnds ⟨1,mode,time,links,size,target⟩ e ∧ Below w.heap.size w w':=by
 go_enter Tryz.func119,Tryz.ntmps119
 go_wp2
 all_goals go_ret
 all_goals simp only [toList_nil] at *
 all_goals
  refine ⟨by first | exact check_yes (right1.2 (by omega)) | exact check_no (fun h=>by have:=right1.1 h; omega),?_⟩
  ·repeat first
    | exact Below.refl _ _
    | refine Below.setCell ?_ (by first | (simp; done) | (simp; omega)) _
    | refine Below.alloc ?_ (by first | (simp; done) | (simp; omega)) _
    | refine Below.drewN ?_ _
    | refine Below.drew ?_
set_option maxRecDepth 100000 in
set_option maxHeartbeats 4000000 in
theorem in_check2 (mode time links size : Int) (target : ByteArray) (w : World) :
 Calls Tryz.prog 119 #[.agg #[.int .i64 2,.int .i64 mode,.int .i64 time,.int .i64 links,.int .i64 size,.string target]] w fun e w'=>CheckEnds ⟨2,mode,time,links,size,target⟩ e ∧ Below w.heap.size w w':=by
 go_enter Tryz.func119,Tryz.ntmps119
 go_wp2
 all_goals go_ret
 all_goals simp only [toList_nil] at *
 all_goals
  refine ⟨by first | exact check_yes (right2.2 (by omega)) | exact check_no (fun h=>by have:=right2.1 h; omega),?_⟩
  ·repeat first
    | exact Below.refl _ _
    | refine Below.setCell ?_ (by first | (simp; done) | (simp; omega)) _
    | refine Below.alloc ?_ (by first | (simp; done) | (simp; omega)) _
    | refine Below.drewN ?_ _
    | refine Below.drew ?_
set_option maxRecDepth 100000 in
set_option maxHeartbeats 4000000 in
theorem in_check0 (kind mode time links size : Int) (target : ByteArray) (w : World) (h1 : kind ≠ 1) (h2 : kind ≠ 2) (h3 : kind ≠ 3) :
 Calls Tryz.prog 119 #[.agg #[.int .i64 kind,.int .i64 mode,.int .i64 time,.int .i64 links,.int .i64 size,.string target]] w fun e w'=>CheckEnds ⟨kind,mode,time,links,size,target⟩ e ∧ Below w.heap.size w w':=by
 have e1 : (kind == 1) = false:=by simp [h1]
 have e2 : (kind == 2) = false:=by simp [h2]
 have e3 : (kind == 3) = false:=by simp [h3]
 have hno:=Lib.hid (right0 (mode:=mode) (time:=time) (links:=links) (size:=size) (target:=target) h1 h2 h3)
 go_enter Tryz.func119,Tryz.ntmps119
 go_wp2
 all_goals go_ret
 all_goals simp only at *
 all_goals
  refine ⟨check_no hno.out,?_⟩
  ·repeat first
    | exact Below.refl _ _
    | refine Below.setCell ?_ (by first | (simp; done) | (simp; omega)) _
    | refine Below.alloc ?_ (by first | (simp; done) | (simp; omega)) _
    | refine Below.drewN ?_ _
    | refine Below.drew ?_
theorem in_check (n : ND) (w : World) (hs : n.target.size ≤ 140737488351232) :
 Calls Tryz.prog 119 #[n.val] w fun e w'=>CheckEnds n e ∧ Below w.heap.size w w':=by
 obtain ⟨kind,mode,time,links,size,target⟩:=n
 by_cases h1 : kind = 1
 ·subst h1; exact in_check1 mode time links size target w
 by_cases h2 : kind = 2
 ·subst h2; exact in_check2 mode time links size target w
 by_cases h3 : kind = 3
 ·subst h3; exact in_check3 mode time links size target w hs
 ·exact in_check0 kind mode time links size target w h1 h2 h3
end Go.Proofs.YtpboohfofodeeaaGreatDoor
/- A region that draws its order, operation by operation: each operation is run ONCE, in a frame in which the slots of the operations it waits for hold what is known of them, and all other operations' slots anything; what is known is kept by whatever makes memory alone ('Below'). So the work is that of one order. (conditions: none) -/
namespace Go.Proofs.YtpboohfofodeeaaGreatDoor
open Go Go.RowKit
/-- The operation in whose slot d lies. -/
def opOf (ops : Array Oper) (d : Nat) : Option Nat:=(List.range ops.size).find? fun i=>((ops[i]?).bind (·.dst)) == some d
/-- The frame's slots, with u's value in the slot of each operation. -/
def mixGo (ops : Array Oper) (u : Nat → Value) : Nat → List Value → List Value
 | _,[]=>[]
 | d,x :: t=>(match opOf ops d with | some i=>u i | none=>x) :: mixGo ops u (d + 1) t
def mixA (ops : Array Oper) (u : Nat → Value) (a : Act) : Act:=⟨(mixGo ops u 0 a.tmps.toList).toArray,a.defers⟩
theorem mixGo_get (ops : Array Oper) (u : Nat → Value) : ∀ (l : List Value) (d k : Nat),(mixGo ops u d l)[k]? = (l[k]?).map fun x=>match opOf ops (d + k) with | some i=>u i | none=>x
 | [],_,_=>by simp [mixGo]
 | x :: t,d,0=>by simp [mixGo]
 | x :: t,d,k + 1=>by
  rw [mixGo,List.getElem?_cons_succ,mixGo_get ops u t (d + 1) k,List.getElem?_cons_succ,show d + 1 + k = d + (k + 1) from by omega]
/-- Each operation has a slot of its own, that the frame has; and waits for earlier ones alone. -/
def okEach (ops : Array Oper) (n : Nat) : Bool:=(List.range ops.size).all fun i=>match ops[i]? with
 | some o=>(match o.dst with | some d=>decide (d < n) && (opOf ops d == some i) | none=>false) && o.after.all fun e=>decide (e.on < i)
 | none=>false
section
variable {P : Program} {ops : Array Oper} {Q : Exit → Act → World → Prop}
theorem okEach_at {n i : Nat} {o : Oper} (h : okEach ops n = true) (ho : ops[i]? = some o) : (∃ d,o.dst = some d ∧ d < n ∧ opOf ops d = some i) ∧ ∀ e ∈ o.after,e.on < i:=by
 have hlt : i < ops.size:=(Array.getElem?_eq_some_iff.1 ho).1
 have h1:=List.all_eq_true.1 h i (List.mem_range.2 hlt)
 rw [ho] at h1
 simp only [Bool.and_eq_true] at h1
 refine ⟨?_,fun e he=>by have:=Array.all_eq_true_iff_forall_mem.1 h1.2 e he; simpa using this⟩
 cases hd : o.dst with
 | none=>rw [hd] at h1; simp at h1
 | some d=>
  rw [hd] at h1
  simp only [Bool.and_eq_true,decide_eq_true_eq,beq_iff_eq] at h1
  exact ⟨d,rfl,h1.1.1,h1.1.2⟩
def updU (u : Nat → Value) (i : Nat) (v : Value) : Nat → Value:=fun j=>if j = i then v else u j
theorem opOf_some {d i : Nat} (h : opOf ops d = some i) : i < ops.size ∧ ((ops[i]?).bind (·.dst)) = some d:=by
 unfold opOf at h
 exact ⟨List.mem_range.1 (List.mem_of_find?_eq_some h),by simpa using List.find?_some h⟩
theorem mixA_put {u : Nat → Value} {a : Act} {i d : Nat} {v : Value} (ho : opOf ops d = some i) (hd : ((ops[i]?).bind (·.dst)) = some d) (hlt : d < a.tmps.size) : (mixA ops u a).put (some d) v = mixA ops (updU u i v) a:=by
 unfold mixA Act.put
 simp only [Act.mk.injEq,and_true]
 apply Array.ext'
 apply List.ext_getElem?
 intro k
 rw [Array.toList_setIfInBounds]
 simp only [List.getElem?_set,mixGo_get,Nat.zero_add]
 by_cases hk : d = k
 ·subst hk
  have hg : a.tmps.toList[d]? = some (a.tmps.toList[d]'(by simpa using hlt)):=List.getElem?_eq_getElem _
  have hlen : d < (mixGo ops u 0 a.tmps.toList).length:=by
   have h1:=mixGo_get ops u a.tmps.toList 0 d
   rw [hg] at h1
   exact (List.getElem?_eq_some_iff.1 h1).1
  rw [if_pos rfl,if_pos hlen,hg]
  simp [ho,updU]
 ·rw [if_neg hk]
  cases hl : a.tmps.toList[k]? with
  | none=>rfl
  | some x=>
   simp only [Option.map_some,Option.some.injEq]
   cases hc : opOf ops k with
   | none=>rfl
   | some j=>
    have hj:=(opOf_some hc).2
    have hne : j ≠ i:=fun e=>by
     subst e
     rw [hd] at hj
     exact hk (Option.some.inj hj)
    simp [updU,hne]
theorem mixA_self {a : Act} : mixA ops (fun i=>match (ops[i]?).bind (·.dst) with | some d=>a.tmps.getD d undef | none=>undef) a = a:=by
 obtain ⟨t,df⟩:=a
 unfold mixA
 simp only [Act.mk.injEq,and_true]
 apply Array.ext'
 apply List.ext_getElem?
 intro k
 rw [mixGo_get,Nat.zero_add]
 cases hl : t.toList[k]? with
 | none=>rfl
 | some x=>
  simp only [Option.map_some,Option.some.injEq]
  cases hc : opOf ops k with
  | none=>rfl
  | some j=>
   have hj:=(opOf_some hc).2
   simp only [hj]
   have : t[k]? = some x:=by rw [← hl]; simp
   rw [Array.getD_eq_getD_getElem?,this]; rfl
/-- What is known of a value in a world: of operation number i. -/
def knownOf (Vs : List (Value → World → Prop)) (i : Nat) (v : Value) (w : World) : Prop:=match Vs[i]? with | some V=>V v w | none=>True
def StableB (V : Value → World → Prop) : Prop:=∀ v w w',V v w → Below w.heap.size w w' → V v w'
def AllV (Vs : List (Value → World → Prop)) (u : Nat → Value) (w : World) : List Nat → Prop
 | []=>True
 | j :: l=>knownOf Vs j (u j) w ∧ AllV Vs u w l
theorem knownOf_stable {Vs : List (Value → World → Prop)} (h : ∀ V ∈ Vs,StableB V) {i : Nat} {v : Value} {w w' : World} (hk : knownOf Vs i v w) (hb : Below w.heap.size w w') : knownOf Vs i v w':=by
 unfold knownOf at *
 cases hV : Vs[i]? with
 | none=>trivial
 | some V=>rw [hV] at hk; exact h V (List.mem_of_getElem? hV) v w w' hk hb
/-- One operation, run once. -/
def StepV (P : Program) (ops : Array Oper) (Q : Exit → Act → World → Prop) (Vs : List (Value → World → Prop)) (F : (Nat → Value) → Act) (W0 : World) (i : Nat) : Prop:=
 ∀ u w,Below W0.heap.size W0 w → (∀ j,(∃ o,ops[i]? = some o ∧ ∃ e ∈ o.after,Region.binds .any e = true ∧ e.on = j) → knownOf Vs j (u j) w) →
  ∀ K : Act → World → Prop,(∀ a' w',(∃ v,∀ o,ops[i]? = some o → a' = (F u).put o.dst v ∧ knownOf Vs i v w') → Below w.heap.size w w' → K a' w') → wpOp P ops Q i K (F u) w
theorem ready_all {n : Nat} (hok : okEach ops n = true) {listed : Array Bool} (hsz : listed.size = ops.size) (hr : Region.ready .any ops listed = []) : ∀ i,i < ops.size → listed.getD i false = true:=by
 intro i
 induction i using Nat.strongRecOn with
 | ind i ih=>
  intro hi
  cases hl : listed.getD i false with
  | true=>rfl
  | false=>
   exfalso
   obtain ⟨o,ho⟩ : ∃ o,ops[i]? = some o:=⟨ops[i],Array.getElem?_eq_getElem hi⟩
   have hm : i ∈ Region.ready .any ops listed:=mem_ready.2 ⟨by
    rw [Array.getD_eq_getD_getElem?,Array.getElem?_eq_getElem (by omega)] at hl ⊢
    simpa using hl,o,ho,fun e he _=>ih e.on ((okEach_at hok ho).2 e he) (Nat.lt_trans ((okEach_at hok ho).2 e he) hi)⟩
   rw [hr] at hm
   cases hm
theorem countP_lt {α : Type} (p q : α → Bool) (x : α) (hq : q x = true) (hp : p x = false) (h : ∀ y,p y = true → q y = true) : ∀ l : List α,x ∈ l → l.countP p < l.countP q
 | [],hx=>by cases hx
 | y :: l,hx=>by
  have hle : l.countP p ≤ l.countP q:=List.countP_mono_left fun z _ hz=>h z hz
  rw [List.countP_cons,List.countP_cons]
  rcases List.mem_cons.1 hx with rfl | hx
  ·rw [hq,hp]; simp; omega
  ·have:=countP_lt p q x hq hp h l hx
   cases hy : p y with
   | true=>rw [h y hy]; simp; omega
   | false=>cases q y <;> simp <;> omega
theorem each_go {Vs : List (Value → World → Prop)} {F : (Nat → Value) → Act} {W0 : World} {a0 : Act} (hF : ∀ u,mixA ops u a0 = F u) (hok : okEach ops a0.tmps.size = true) (hst : ∀ V ∈ Vs,StableB V)
 (hstep : ∀ i,i < ops.size → StepV P ops Q Vs F W0 i)
 (hend : ∀ u w,Below W0.heap.size W0 w → (∀ i,i < ops.size → knownOf Vs i (u i) w) → Q .normal (F u) w) :
 ∀ (fuel : Nat) (listed : Array Bool) (u : Nat → Value) (w : World),listed.size = ops.size → Below W0.heap.size W0 w → (∀ i,i < ops.size → listed.getD i false = true → knownOf Vs i (u i) w) →
  (List.range ops.size).countP (fun i=>!listed.getD i false) ≤ fuel → wpAny P .any ops Q fuel listed (F u) w:=by
 intro fuel
 induction fuel with
 | zero=>
  intro listed u w hsz hb hk hc
  have hall : ∀ i,i < ops.size → listed.getD i false = true:=fun i hi=>by
   have h0:=List.countP_eq_zero.1 (Nat.le_zero.1 hc) i (List.mem_range.2 hi)
   simpa using h0
  refine ⟨?_,hend u w hb fun i hi=>hk i hi (hall i hi)⟩
  cases hr : Region.ready .any ops listed with
  | nil=>rfl
  | cons j t=>
   exfalso
   have hj : j ∈ Region.ready .any ops listed:=by rw [hr]; exact List.mem_cons_self
   obtain ⟨h1,o,ho,_⟩:=mem_ready.1 hj
   have hlt : j < ops.size:=(Array.getElem?_eq_some_iff.1 ho).1
   have h2:=hall j hlt
   rw [Array.getD_eq_getD_getElem?,Array.getElem?_eq_getElem (by omega)] at h1 h2
   simp at h1 h2
   rw [h1] at h2
   cases h2
 | succ fuel ih=>
  intro listed u w hsz hb hk hc
  refine ⟨fun hr=>hend u w hb fun i hi=>hk i hi (ready_all hok hsz hr i hi),fun i hi=>?_⟩
  obtain ⟨hun,o,ho,hall⟩:=mem_ready.1 hi
  have hlt : i < ops.size:=(Array.getElem?_eq_some_iff.1 ho).1
  have hun' : listed.getD i false = false:=by
   rw [Array.getD_eq_getD_getElem?,Array.getElem?_eq_getElem (by omega)] at hun ⊢
   simpa using hun
  obtain ⟨⟨d,hd,hdl,hop⟩,hbef⟩:=okEach_at hok ho
  refine hstep i hlt u w hb ?_ _ ?_
  ·rintro j ⟨o',ho',e,he,hbi,rfl⟩
   obtain rfl : o' = o:=Option.some.inj (ho'.symm.trans ho)
   exact hk _ (Nat.lt_trans (hbef e he) hlt) (hall e he hbi)
  ·rintro a' w' ⟨v,hv⟩ hb'
   obtain ⟨rfl,hkn⟩:=hv o ho
   rw [hd,← hF,mixA_put hop (by rw [ho]; exact hd) hdl,hF]
   refine ih _ _ _ (by simpa using hsz) (hb.trans (hb'.mono hb.size)) ?_ ?_
   ·intro j hj hlj
    by_cases hji : j = i
    ·subst hji; simpa [updU] using hkn
    ·have : updU u i v j = u j:=by simp [updU,hji]
     rw [this]
     refine knownOf_stable hst (hk j hj ?_) hb'
     rw [Array.getD_eq_getD_getElem?,Array.getElem?_setIfInBounds_ne (by omega)] at hlj
     rw [Array.getD_eq_getD_getElem?]; exact hlj
   ·refine Nat.le_of_lt_succ (Nat.lt_of_lt_of_le (countP_lt _ _ i (by simp [hun']) ?_ ?_ _ (List.mem_range.2 hlt)) hc)
    ·rw [Array.getD_eq_getD_getElem?,Array.getElem?_setIfInBounds_self_of_lt (by omega)]; rfl
    ·intro y hy
     by_cases hyi : y = i
     ·subst hyi; simp [hun']
     ·rw [Array.getD_eq_getD_getElem?,Array.getElem?_setIfInBounds_ne (by omega)] at hy
      rw [Array.getD_eq_getD_getElem?]; exact hy
/-- The law. -/
theorem wp_region_each {id : Nat} {a0 : Act} {W0 : World} (hm : P.follows .mixedOrders = true) (Vs : List (Value → World → Prop)) (F : (Nat → Value) → Act) (hF : ∀ u,mixA ops u a0 = F u) (hok : okEach ops a0.tmps.size = true)
 (hst : ∀ V ∈ Vs,StableB V) (hstep : ∀ i,i < ops.size → StepV P ops Q Vs F W0 i)
 (hend : ∀ u w,Below W0.heap.size W0 w → (∀ i,i < ops.size → knownOf Vs i (u i) w) → Q .normal (F u) w) : (Code.region id ops true).wp P Q a0 W0:=by
 refine wp_region_any hm ?_
 have h:=each_go hF hok hst hstep hend ops.size (Array.replicate ops.size false) (fun i=>match (ops[i]?).bind (·.dst) with | some d=>a0.tmps.getD d undef | none=>undef) { W0 with drawn:=W0.drawn + 1 } (by simp) ((Below.refl _ W0).drew) (fun i hi hl=>by
  rw [Array.getD_eq_getD_getElem?,Array.getElem?_replicate,if_pos hi] at hl
  cases hl) (by exact Nat.le_trans List.countP_le_length (by simp))
 rw [← hF,mixA_self] at h
 exact h
theorem StepV.of {Vs : List (Value → World → Prop)} {F : (Nat → Value) → Act} {W0 : World} {i : Nat} {o : Oper} (ho : ops[i]? = some o) (deps : List Nat)
 (hd : (deps.all fun j=>o.after.any fun e=>Region.binds .any e && e.on == j) = true)
 (h : ∀ u w,Below W0.heap.size W0 w → AllV Vs u w deps → ∀ K' : Act → World → Prop,Shut (∀ v w',knownOf Vs i v w' → Below w.heap.size w w' → K' ((F u).put o.dst v) w') →
  if Region.wanted o (yielded ops (F u).tmps) = true then Oper.wp P o (F u) w K' Q else K' ((F u).put o.dst undef) w) : StepV P ops Q Vs F W0 i:=by
 intro u w hb hk K hK
 refine wpOp_step ho fun K' hKK=>h u w hb ?_ K' fun v w' hv hb'=>hKK _ _ (hK _ _ ⟨v,fun o' ho'=>?_⟩ hb')
 ·have hin : ∀ j ∈ deps,knownOf Vs j (u j) w:=fun j hj=>by
   have h1:=List.all_eq_true.1 hd j hj
   obtain ⟨k,hk1,hk2⟩:=Array.any_eq_true.1 h1
   simp only [Bool.and_eq_true,beq_iff_eq] at hk2
   exact hk j ⟨o,ho,o.after[k],Array.getElem_mem hk1,hk2.1,hk2.2⟩
  have aux : ∀ l : List Nat,(∀ j ∈ l,knownOf Vs j (u j) w) → AllV Vs u w l:=fun l=>by
   induction l with
   | nil=>exact fun _=>trivial
   | cons j t ih=>exact fun hl=>⟨hl j List.mem_cons_self,ih fun k hk=>hl k (List.mem_cons_of_mem _ hk)⟩
  exact aux deps hin
 ·obtain rfl : o' = o:=Option.some.inj (ho'.symm.trans ho)
  exact ⟨rfl,hv⟩
def StepL (P : Program) (ops : Array Oper) (Q : Exit → Act → World → Prop) (Vs : List (Value → World → Prop)) (F : (Nat → Value) → Act) (W0 : World) : List Nat → Prop
 | []=>True
 | i :: l=>StepV P ops Q Vs F W0 i ∧ StepL P ops Q Vs F W0 l
theorem StepL.all {Vs : List (Value → World → Prop)} {F : (Nat → Value) → Act} {W0 : World} : ∀ {l : List Nat},StepL P ops Q Vs F W0 l → ∀ i ∈ l,StepV P ops Q Vs F W0 i
 | _ :: _,h,i,hi=>by
  rcases List.mem_cons.1 hi with rfl | hi
  ·exact h.1
  ·exact StepL.all h.2 i hi
def StabL : List (Value → World → Prop) → Prop
 | []=>True
 | V :: l=>StableB V ∧ StabL l
theorem StabL.all : ∀ {l : List (Value → World → Prop)},StabL l → ∀ V ∈ l,StableB V
 | _ :: _,h,V,hV=>by
  rcases List.mem_cons.1 hV with rfl | hV
  ·exact h.1
  ·exact StabL.all h.2 V hV
theorem allV_of {Vs : List (Value → World → Prop)} {u : Nat → Value} {w : World} {n : Nat} (h : ∀ i,i < n → knownOf Vs i (u i) w) : ∀ (l : List Nat),l.all (fun i=>decide (i < n)) = true → AllV Vs u w l
 | [],_=>trivial
 | i :: l,hl=>by
  rw [List.all_cons,Bool.and_eq_true] at hl
  exact ⟨h i (by simpa using hl.1),allV_of h l hl.2⟩
theorem wp_region_each' {id : Nat} {a0 : Act} {W0 : World} (hm : P.follows .mixedOrders = true) (Vs : List (Value → World → Prop)) (F : (Nat → Value) → Act) (hF : ∀ u,mixA ops u a0 = F u) (hok : okEach ops a0.tmps.size = true) (l : List Nat) (hl : List.range ops.size = l)
 (hstep : StepL P ops Q Vs F W0 l) (hst : StabL Vs)
 (hend : ∀ u w,Below W0.heap.size W0 w → AllV Vs u w l → Q .normal (F u) w) : (Code.region id ops true).wp P Q a0 W0:=
 wp_region_each hm Vs F hF hok hst.all (fun i hi=>hstep.all i (by rw [← hl]; exact List.mem_range.2 hi)) fun u w hb hk=>hend u w hb (allV_of hk l (by rw [← hl]; simp))
end
theorem cell_keep {w w' : World} (hb : Below w.heap.size w w') {p : Addr} {v : Value} (hc : w.cell? p = some v) : w'.cell? p = some v:=(hb.cell (World.block_lt_of_cell? w p hc)).trans hc
theorem unwanted {c : Bool} {p q : Prop} (hc : c = false) (h : q) : if c = true then p else q:=by subst hc; simpa using h
end Go.Proofs.YtpboohfofodeeaaGreatDoor
