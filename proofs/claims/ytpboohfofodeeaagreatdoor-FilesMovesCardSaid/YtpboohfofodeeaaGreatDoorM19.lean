/- files: unlink (conditions: none). -/
import Derived.Test.YtpboohfofodeeaaGreatDoorM18
namespace Go.Proofs.YtpboohfofodeeaaGreatDoor
open Go.RowKit Go.Maps
open Classical in
/-- What unlink (rm: rmdir) answers. -/
noncomputable def unlinkC (fs : FS) (sl : SlotK) (ino : Int) (a : NodeA) (rm : Bool) : Int:=
 if a.nd.kind = 2 ∧ rm = false then 163 else if rm = false then 0 else if sl.1.2.toList.isEmpty = true then 1 else if a.nd.kind ≠ 2 then 162 else if ¬ emptyS fs.G ino then 164 else 0
noncomputable def unlinkS (fs : FS) (sl : SlotK) (ino : Int) (a : NodeA) (rm : Bool) : FS:=if unlinkC fs sl ino a rm = 0 then awayS fs sl ino a else fs
/-- An operation that answers a status alone. -/
def OpEnds [Fence] (c : Nat) (w : World) (f b m : Nat) (code : Int) (fs' : FS) (e : Ending) (w' : World) : Prop:=e = .returned (.int .i64 code) ∧ ∃ own',FlsB c w' f b m own' fs' ∧ KeepF w w'
theorem op_ends [Fence] {c : Nat} {w w' : World} {f b m : Nat} {own : Int → Own} {code code' : Int} {fs fs' : FS} (hc : code = code') (_hf : fs = fs') (h1 : FlsB c w' f b m own fs) (h2 : KeepF w w') : OpEnds c w f b m code fs (.returned (.int .i64 code')) w':=by
 subst hc
 exact ⟨rfl,own,h1,h2⟩
set_option maxRecDepth 100000 in
set_option maxHeartbeats 4000000 in
theorem fw_unlink [Fence] {c : Nat} {w : World} {f b m : Nat} {own : Int → Own} {fs : FS} (h : FlsB c w f b m own fs) (sl : SlotK) (ino : Int) (a : NodeA) (ha : fs.N ino = some a) (hi : (Lit.int .i64 ino).wf = true) (hl : 1 ≤ a.nd.links ∧ a.nd.links ≤ 1099511627776) (rm : Bool) :
 Calls Tryz.prog 57 #[wkV f,spotC sl.1.1 sl.1.2 ino,.bool rm] w (OpEnds (c + 1) w f b m (unlinkC fs sl ino a rm) (unlinkS fs sl ino a rm)):=by
 have hb0 : Below w.heap.size w ((w.alloc (.cells #[Pa f] 78)).alloc (.cells #[.int .i64 sl.1.1,.string sl.1.2,.int .i64 ino] 119)):=((Below.refl _ _).alloc (Nat.le_refl _) _).alloc (by simp) _
 have hF:=h.below hb0
 have hW:=(Blk.new w 78 #[Pa f]).alloc (.cells #[.int .i64 sl.1.1,.string sl.1.2,.int .i64 ino] 119)
 have hS:=Blk.new (w.alloc (.cells #[Pa f] 78)) 119 #[.int .i64 sl.1.1,.string sl.1.2,.int .i64 ino]
 have e1 : (w.alloc (.cells #[Pa f] 78)).heap.size = w.heap.size + 1:=by simp
 rw [e1] at hS
 have HB0:=Lib.hid hb0
 have HC:=Lib.hid (rfl : unlinkC fs sl ino a rm = unlinkC fs sl ino a rm)
 conv at HC=>arg 1; rhs; unfold unlinkC
 have HSS:=Lib.hid (rfl : unlinkS fs sl ino a rm = unlinkS fs sl ino a rm)
 conv at HSS=>arg 1; rhs; unfold unlinkS
 generalize unlinkC fs sl ino a rm = code at *
 generalize unlinkS fs sl ino a rm = fs2 at *
 unfold wkV spotC
 clear h hb0 e1
 go_enter Tryz.func57,Tryz.ntmps57
 go_upto_region 1 with fail
 generalize (w.alloc (.cells #[Pa f] 78)).alloc (.cells #[.int .i64 sl.1.1,.string sl.1.2,.int .i64 ino] 119) = w1 at *
 have d0 : w1.cell? ⟨w.heap.size,0,none⟩ = some (Pa f):=hW.cell 0
 have d1 : w1.cell? ⟨f,1,none⟩ = some (.map (some b)):=hF.blk.cell 1
 have s2 : w1.cell? ⟨w.heap.size + 1,2,none⟩ = some (.int .i64 ino):=hS.cell 2
 have k0 : w1.cell? ⟨(own ino).g,0,none⟩ = some (.int .i64 a.nd.kind):=(hF.node ino a ha).blk.cell 0
 have hL : ∀ n,(Instr.lookup 88 (.map (some b)) (.int .i64 ino) false).run Tryz.prog (w1.drewN n) = .ok (.pointer (some ⟨(own ino).g,0,none⟩)) (w1.drewN n):=fun n=>by
  rw [hF.lookN ino hi n,ha]
  rfl
 have HF:=Lib.hid hF
 have HW:=Lib.hid hW
 have HS:=Lib.hid hS
 clear hF hW hS
 go_quiet (fail)
 clear hL d0 d1 s2 k0
 have hbq : Below w1.heap.size w1 (w1.drewN nq):=below_drewN (Below.refl _ _) nq
 replace HB0:=Lib.hid (bl_t HB0.out hbq)
 replace HF:=Lib.hid (HF.out.below hbq)
 replace HW:=Lib.hid (blk_below HW.out hbq)
 replace HS:=Lib.hid (blk_below HS.out hbq)
 clear hbq
 generalize w1.drewN nq = w2 at *
 have d0 : w2.cell? ⟨w.heap.size,0,none⟩ = some (Pa f):=HW.out.cell 0
 have s0 : w2.cell? ⟨w.heap.size + 1,0,none⟩ = some (.int .i64 sl.1.1):=HS.out.cell 0
 have s1 : w2.cell? ⟨w.heap.size + 1,1,none⟩ = some (.string sl.1.2):=HS.out.cell 1
 have s2 : w2.cell? ⟨w.heap.size + 1,2,none⟩ = some (.int .i64 ino):=HS.out.cell 2
 have hAw:=Lib.hid (fw_away HF.out sl ino a ha hi hl)
 have hHe:=Lib.hid (fl_here sl.1.1 sl.1.2 ino w2)
 unfold wkV spotC at hAw
 unfold spotV at hHe
 cases rm with
 | false=>
  by_cases hk : a.nd.kind = 2
  ·have hk' : (a.nd.kind == 2) = true:=by simpa using hk
   have hc:=HC.out
   rw [if_pos ⟨hk,rfl⟩] at hc
   have hs:=HSS.out
   rw [if_neg (by omega)] at hs
   subst hs
   have HCC:=Lib.hid hc
   clear hc
   go_wp2
   go_ret
   exact op_ends HCC.out rfl (HF.out.more (Nat.le_succ c)) (KeepF.of_below HB0.out)
  ·have hk' : (a.nd.kind == 2) = false:=by simpa using hk
   have hc:=HC.out
   rw [if_neg (fun h=>hk h.1),if_pos rfl] at hc
   have hs:=HSS.out
   rw [if_pos hc] at hs
   subst hs
   have HCC:=Lib.hid hc
   clear hc
   go_wp2_with (go_at_call 110; refine hAw.out.mono ?_; rintro e w4 ⟨rfl,hq,hkf⟩; have HQ:=Lib.hid hq; have HKF:=Lib.hid (KeepF.after HB0.out hkf); clear hq hkf)
   go_ret
   exact op_ends HCC.out rfl HQ.out HKF.out
 | true=>
  by_cases hh : sl.1.2.toList.isEmpty = true
  ·have hc:=HC.out
   rw [if_neg (fun h=>by cases h.2),if_neg (by decide),if_pos hh] at hc
   have hs:=HSS.out
   rw [if_neg (by omega)] at hs
   subst hs
   have HCC:=Lib.hid hc
   clear hc
   rw [hh] at hHe
   go_wp2_with (go_at_call 107; refine hHe.out.mono ?_; rintro e w4 ⟨rfl,hb4⟩; have HB4:=Lib.hid hb4; clear hb4)
   all_goals go_ret
   all_goals exact op_ends HCC.out rfl ((HF.out.below HB4.out).more (Nat.le_succ c)) (KeepF.of_below (bl_t HB0.out HB4.out))
  ·have hh' : sl.1.2.toList.isEmpty = false:=by simpa using hh
   rw [hh'] at hHe
   by_cases hk : a.nd.kind = 2
   ·have hEm:=Lib.hid (fun W (hb : Below w2.heap.size w2 W)=>fw_empty (HF.out.below hb) ino)
    unfold wkV at hEm
    by_cases he : emptyS fs.G ino
    ·have hc:=HC.out
     rw [if_neg (fun h=>by cases h.2),if_neg (by decide),if_neg hh,if_neg (fun h=>h hk),if_neg (fun h=>h he)] at hc
     have hs:=HSS.out
     rw [if_pos hc] at hs
     subst hs
     have HCC:=Lib.hid hc
     clear hc
     have HE:=Lib.hid he
     clear he
     go_wp2_with (first
      |(go_at_call 107
        refine hHe.out.mono ?_
        rintro e w4 ⟨rfl,hb4⟩
        have HB4:=Lib.hid hb4
        have t0 : w4.cell? ⟨w.heap.size,0,none⟩ = some (Pa f):=(blk_below HW.out hb4).cell 0
        have t2 : w4.cell? ⟨w.heap.size + 1,2,none⟩ = some (.int .i64 ino):=(blk_below HS.out hb4).cell 2
        clear hb4)
      |(go_at_call 109
        refine (hEm.out _ HB4.out).mono ?_
        rintro e w5 ⟨⟨r,rfl,hr⟩,hb5⟩
        obtain rfl : r = true:=hr.2 HE.out
        have HB5:=Lib.hid (bl_t HB4.out hb5)
        have u0 : w5.cell? ⟨w.heap.size,0,none⟩ = some (Pa f):=(blk_below HW.out HB5.out).cell 0
        have u1 : w5.cell? ⟨w.heap.size + 1,0,none⟩ = some (.int .i64 sl.1.1):=(blk_below HS.out HB5.out).cell 0
        have u2 : w5.cell? ⟨w.heap.size + 1,1,none⟩ = some (.string sl.1.2):=(blk_below HS.out HB5.out).cell 1
        have u3 : w5.cell? ⟨w.heap.size + 1,2,none⟩ = some (.int .i64 ino):=(blk_below HS.out HB5.out).cell 2
        have hAw5:=Lib.hid (fw_away (HF.out.below HB5.out) sl ino a ha hi hl)
        unfold wkV spotC at hAw5
        clear hr hb5)
      |(go_at_call 110
        refine hAw5.out.mono ?_
        rintro e w6 ⟨rfl,hq,hkf⟩
        have HQ:=Lib.hid hq
        have HKF:=Lib.hid (KeepF.after (bl_t HB0.out HB5.out) hkf)
        clear hq hkf))
     all_goals go_ret
     all_goals exact op_ends HCC.out rfl HQ.out HKF.out
    ·have hc:=HC.out
     rw [if_neg (fun h=>by cases h.2),if_neg (by decide),if_neg hh,if_neg (fun h=>h hk),if_pos he] at hc
     have hs:=HSS.out
     rw [if_neg (by omega)] at hs
     subst hs
     have HCC:=Lib.hid hc
     clear hc
     have HE:=Lib.hid he
     clear he
     go_wp2_with (first
      |(go_at_call 107
        refine hHe.out.mono ?_
        rintro e w4 ⟨rfl,hb4⟩
        have HB4:=Lib.hid hb4
        have t0 : w4.cell? ⟨w.heap.size,0,none⟩ = some (Pa f):=(blk_below HW.out hb4).cell 0
        have t2 : w4.cell? ⟨w.heap.size + 1,2,none⟩ = some (.int .i64 ino):=(blk_below HS.out hb4).cell 2
        clear hb4)
      |(go_at_call 109
        refine (hEm.out _ HB4.out).mono ?_
        rintro e w5 ⟨⟨r,rfl,hr⟩,hb5⟩
        obtain rfl : r = false:=Bool.eq_false_iff.2 fun h=>HE.out (hr.1 h)
        have HB5:=Lib.hid (bl_t HB4.out hb5)
        clear hr hb5))
     all_goals go_ret
     all_goals exact op_ends HCC.out rfl ((HF.out.below HB5.out).more (Nat.le_succ c)) (KeepF.of_below (bl_t HB0.out HB5.out))
   ·have hk' : (a.nd.kind == 2) = false:=by simpa using hk
    have hc:=HC.out
    rw [if_neg (fun h=>by cases h.2),if_neg (by decide),if_neg hh,if_pos hk] at hc
    have hs:=HSS.out
    rw [if_neg (by omega)] at hs
    subst hs
    have HCC:=Lib.hid hc
    clear hc
    go_wp2_with (go_at_call 107; refine hHe.out.mono ?_; rintro e w4 ⟨rfl,hb4⟩; have HB4:=Lib.hid hb4; clear hb4)
    all_goals go_ret
    all_goals exact op_ends HCC.out rfl ((HF.out.below HB4.out).more (Nat.le_succ c)) (KeepF.of_below (bl_t HB0.out HB4.out))
end Go.Proofs.YtpboohfofodeeaaGreatDoor
/- files: what is known of where a path leads (conditions: none). -/
namespace Go.Proofs.YtpboohfofodeeaaGreatDoor
open Go.RowKit Go.Maps
def wfI (i : Int) : Prop:=(Lit.int .i64 i).wf = true
def WfG (fs : FS) : Prop:=∀ s i,fs.G s = some i → (Lit.int .i64 i).wf = true
structure DirOk (fs : FS) (d : Int) : Prop where
 dir : isDir fs d
 wf : wfI d
/-- What is known of where a path leads. -/
def Wok (fs : FS) (r : WR) : Prop:=(r.code ≠ 0 → r.dir = 0 ∧ r.name = ⟨#[]⟩ ∧ r.ino = 0) ∧ (r.code = 0 → (r.name = ⟨#[]⟩ ∧ r.dir = 0 ∧ DirOk fs r.ino) ∨ (nameB r.name = true ∧ DirOk fs r.dir ∧ wfI r.ino ∧ (atG fs.G r.dir r.name = none ∧ r.ino = 0 ∨ atG fs.G r.dir r.name = some r.ino)))
def NmOk (x : ByteArray) : Prop:=(x.toList == [46,46]) = true ∨ nameB x = true
theorem wrE_ok {fs : FS} {c : Int} (h : c ≠ 0) : Wok fs (wrE c):=⟨fun _=>⟨rfl,rfl,rfl⟩,fun h0=>absurd h0 h⟩
theorem aboveF_wf {fs : FS} {d : Int} (hd : wfI d) : wfI (aboveF fs.G d):=by
 unfold aboveF
 split
 ·exact (Subtype.property _ : okSl _).1
 ·exact hd
theorem name_size {n : ByteArray} (h : nameB n = true) : n.size ≤ 255:=by
 unfold nameB at h
 simp only [Bool.and_eq_true,decide_eq_true_eq] at h
 exact h.2.1.1.2
theorem slotAt_some {G : SlotK → Option Int} {d i : Int} {n : ByteArray} (h : atG G d n = some i) : ∃ s : SlotK,s.1 = (d,n) ∧ G s = some i:=by
 unfold atG slotAt at h
 split at h
 ·rename_i hk
  exact ⟨⟨(d,n),hk⟩,rfl,h⟩
 ·cases h
theorem walkIn_ok {fs : FS} {fo : Bool} {K : ByteArray → List ByteArray → Int → WR} (hR : RightFS fs) (hw : WfG fs) (hK : ∀ t rest dir,(∀ x ∈ rest,NmOk x) → DirOk fs dir → Wok fs (K t rest dir)) :
 ∀ (l : List ByteArray) (dir : Int),(∀ x ∈ l,NmOk x) → DirOk fs dir → Wok fs (walkIn fs fo K l dir)
 | [],dir,_,hd=>by
  rw [walkIn]
  exact ⟨fun h=>absurd rfl h,fun _=>.inl ⟨rfl,rfl,hd⟩⟩
 | nm :: rest,dir,hl,hd=>by
  have hr : ∀ x ∈ rest,NmOk x:=fun x hx=>hl x (List.mem_cons_of_mem _ hx)
  by_cases hup : (nm.toList == [46,46]) = true
  ·rw [walkIn_up hup]
   exact walkIn_ok hR hw hK rest _ hr ⟨above_dir hR hd.dir,aboveF_wf hd.wf⟩
  ·have hn : nameB nm = true:=(hl nm (by simp)).resolve_left hup
   cases hg : atG fs.G dir nm with
   | none=>
    by_cases h0 : rest.length = 0
    ·rw [walkIn_last hup hg h0]
     exact ⟨fun h=>absurd rfl h,fun _=>.inr ⟨hn,hd,(by decide : (Lit.int .i64 0).wf = true),.inl ⟨hg,rfl⟩⟩⟩
    ·rw [walkIn_none hup hg h0]
     exact wrE_ok (by decide)
   | some ino=>
    obtain ⟨s,hs,hgs⟩:=slotAt_some hg
    have hwi : wfI ino:=hw s ino hgs
    obtain ⟨a,ha⟩ : ∃ a,fs.N ino = some a:=Option.ne_none_iff_exists'.1 (hR.named _ _ hgs).2.2.1
    by_cases hf : a.nd.kind = 3 ∧ (rest.length ≠ 0 ∨ fo = true)
    ·rw [walkIn_link hup hg ha hf.1 hf.2]
     exact hK _ _ _ hr hd
    ·by_cases h0 : rest.length = 0
     ·rw [walkIn_is hup hg ha hf h0]
      exact ⟨fun h=>absurd rfl h,fun _=>.inr ⟨hn,hd,hwi,.inr hg⟩⟩
     ·by_cases h2 : a.nd.kind = 2
      ·rw [walkIn_in hup hg ha h0 h2]
       exact walkIn_ok hR hw hK rest _ hr ⟨⟨a,ha,h2⟩,hwi⟩
      ·rw [walkIn_no hup hg ha (fun h3=>hf ⟨h3,.inl h0⟩) h0 h2]
       exact wrE_ok (by decide)
theorem split_ok (s : ByteArray) : ∀ x ∈ (splitP s).1,NmOk x:=by
 unfold splitP
 split
 ·simp
 ·split
  ·simp
  ·simp only
   split
   ·simp
   ·rename_i h3
    simp only [Bool.or_eq_true,decide_eq_true_eq,not_or,Bool.not_eq_true,List.any_eq_false,Bool.not_eq_eq_eq_not,Bool.not_true] at h3
    intro x hx
    exact .inr (by have:=h3.2 x hx; simpa using this)
theorem lead_ok (s : ByteArray) : ∀ x ∈ (leadP s).1,NmOk x:=by
 unfold leadP
 split
 ·simp
 ·split
  ·exact split_ok s
  ·split
   ·simp
   ·rename_i h3
    simp only [Bool.or_eq_true,decide_eq_true_eq,not_or,Bool.not_eq_true,List.any_eq_false] at h3
    intro x hx
    have h:=h3.2 x hx
    unfold leadB at h
    unfold NmOk
    cases h1 : (x.toList == [46,46]) <;> cases h2 : nameB x <;> simp_all
theorem walkK_ok {fs : FS} {fo : Bool} (hR : RightFS fs) (hw : WfG fs) : ∀ (k : Nat) (t : ByteArray) (rest : List ByteArray) (dir : Int),(∀ x ∈ rest,NmOk x) → DirOk fs dir → Wok fs (walkK fs fo k t rest dir)
 | 0,_,_,_,_,_=>wrE_ok (by decide)
 | k + 1,t,rest,dir,hr,hd=>by
  rw [walkK]
  split
  ·exact wrE_ok (by decide)
  ·refine walkIn_ok hR hw (walkK_ok hR hw k) _ _ (fun x hx=>(List.mem_append.1 hx).elim (lead_ok t x) (hr x)) ?_
   split
   ·exact ⟨hR.rooted.2,(by decide : (Lit.int .i64 1).wf = true)⟩
   ·exact hd
theorem walk_ok {fs : FS} (hR : RightFS fs) (hw : WfG fs) (p : ByteArray) (fo : Bool) : Wok fs (walkS fs p fo):=
 walkIn_ok hR hw (walkK_ok hR hw 8) _ _ (split_ok p) ⟨hR.rooted.2,(by decide : (Lit.int .i64 1).wf = true)⟩
/-- The slot where it leads. -/
theorem Wok.slot {fs : FS} {r : WR} (h : Wok fs r) (h0 : r.code = 0) : ∃ sl : SlotK,sl.1 = (r.dir,r.name) ∧ sl.1.2.size ≤ 255 ∧ wfI r.ino:=by
 rcases h.2 h0 with ⟨h1,h2,h3⟩ | ⟨h1,h2,h3,_⟩
 ·refine ⟨⟨(r.dir,r.name),?_⟩,rfl,?_,h3.wf⟩
  ·rw [h1,h2]; exact ⟨(by decide : (Lit.int .i64 0).wf = true),by simp [ByteArray.size]⟩
  ·show r.name.size ≤ 255
   rw [h1]; decide
 ·have hs:=name_size h1
  exact ⟨⟨(r.dir,r.name),h2.wf,by simp only; unfold maxLen; omega⟩,rfl,hs,h3⟩
end Go.Proofs.YtpboohfofodeeaaGreatDoor
/- files: link (conditions: none). -/
namespace Go.Proofs.YtpboohfofodeeaaGreatDoor
open Go.RowKit Go.Maps
/-- A name more of what stands somewhere: status and files. -/
def LinkR (fs : FS) (ino : Int) (a : NodeA) (tp : ByteArray) (code : Int) (fs' : FS) : Prop:=
 (a.nd.kind = 2 ∧ code = 163 ∧ fs' = fs) ∨ (a.nd.kind ≠ 2 ∧ (walkS fs tp false).code ≠ 0 ∧ code = (walkS fs tp false).code ∧ fs' = fs) ∨
 (a.nd.kind ≠ 2 ∧ (walkS fs tp false).code = 0 ∧ (walkS fs tp false).ino ≠ 0 ∧ code = 161 ∧ fs' = fs) ∨
 (a.nd.kind ≠ 2 ∧ (walkS fs tp false).code = 0 ∧ (walkS fs tp false).ino = 0 ∧ a.nd.links = 1099511627776 ∧ code = 169 ∧ fs' = fs) ∨
 (a.nd.kind ≠ 2 ∧ (walkS fs tp false).code = 0 ∧ (walkS fs tp false).ino = 0 ∧ a.nd.links ≠ 1099511627776 ∧ ∃ sl : SlotK,sl.1 = ((walkS fs tp false).dir,(walkS fs tp false).name) ∧
  fs' = putG { fs with N:=upd fs.N ino { a with nd:={ a.nd with links:=a.nd.links + 1 } } } sl ino ∧ ((code = 120 ∧ longS fs') ∨ (code = 0 ∧ ¬ longS fs')))
def OpEndsR [Fence] (c : Nat) (w : World) (f b m : Nat) (R : Int → FS → Prop) (e : Ending) (w' : World) : Prop:=∃ code fs' own',e = .returned (.int .i64 code) ∧ R code fs' ∧ FlsB c w' f b m own' fs' ∧ KeepF w w'
set_option maxRecDepth 100000 in
set_option maxHeartbeats 8000000 in
theorem fw_link [Fence] {c : Nat} {w : World} {f b m : Nat} {own : Int → Own} {fs : FS} (h : FlsB c w f b m own fs) (hR : RightFS fs) (hG : GoodN fs) (hn : namesOk fs) (hlv : LibV w) (d0_ : Int) (n0_ : ByteArray) (ino : Int) (a : NodeA) (ha : fs.N ino = some a) (hi : (Lit.int .i64 ino).wf = true) (tp : ByteArray) (hto : tp.size ≤ 140737488351232) (hc : c < 1099511627776) :
 Calls Tryz.prog 55 #[wkV f,spotC d0_ n0_ ino,.string tp] w (OpEndsR (c + 1) w f b m (LinkR fs ino a tp)):=by
 have hl:=hG ino a ha
 have hwok:=walk_ok hR h.wf tp false
 have hb0 : Below w.heap.size w ((w.alloc (.cells #[Pa f] 78)).alloc (.cells #[.int .i64 d0_,.string n0_,.int .i64 ino] 119)):=((Below.refl _ _).alloc (Nat.le_refl _) _).alloc (by simp) _
 have hF:=h.below hb0
 have hLV:=hlv.below hb0
 have hW:=(Blk.new w 78 #[Pa f]).alloc (.cells #[.int .i64 d0_,.string n0_,.int .i64 ino] 119)
 have hS:=Blk.new (w.alloc (.cells #[Pa f] 78)) 119 #[.int .i64 d0_,.string n0_,.int .i64 ino]
 have e1 : (w.alloc (.cells #[Pa f] 78)).heap.size = w.heap.size + 1:=by simp
 rw [e1] at hS
 have HB0:=Lib.hid hb0
 have HLR:=Lib.hid (fun code fs'=>(Iff.rfl : LinkR fs ino a tp code fs' ↔ LinkR fs ino a tp code fs'))
 conv at HLR=>arg 1; intro code fs'; rhs; unfold LinkR
 have HR:=Lib.hid hR
 have HG:=Lib.hid hG
 have HWK:=Lib.hid hwok
 generalize hwk : walkS fs tp false = wk at *
 have HWE:=Lib.hid hwk
 have hl1 : 1 ≤ a.nd.links ∧ a.nd.links ≤ 1099511627776:=⟨hl.1,hl.2.1⟩
 unfold wkV spotC
 clear h hb0 e1 hR hG hwok hwk hlv hl
 obtain ⟨wd,wn,wi,wc_⟩:=wk
 go_enter Tryz.func55,Tryz.ntmps55
 go_upto_region 1 with fail
 generalize (w.alloc (.cells #[Pa f] 78)).alloc (.cells #[.int .i64 d0_,.string n0_,.int .i64 ino] 119) = w1 at *
 have d0 : w1.cell? ⟨w.heap.size,0,none⟩ = some (Pa f):=hW.cell 0
 have d1 : w1.cell? ⟨f,1,none⟩ = some (.map (some b)):=hF.blk.cell 1
 have s2 : w1.cell? ⟨w.heap.size + 1,2,none⟩ = some (.int .i64 ino):=hS.cell 2
 have hL : ∀ n,(Instr.lookup 88 (.map (some b)) (.int .i64 ino) false).run Tryz.prog (w1.drewN n) = .ok (.pointer (some ⟨(own ino).g,0,none⟩)) (w1.drewN n):=fun n=>by
  rw [hF.lookN ino hi n,ha]
  rfl
 have HF:=Lib.hid hF
 have HW:=Lib.hid hW
 have HS:=Lib.hid hS
 have HL:=Lib.hid hLV
 clear hF hW hS hLV
 go_quiet (fail)
 clear hL d0 d1 s2
 have hbq : Below w1.heap.size w1 (w1.drewN nq):=below_drewN (Below.refl _ _) nq
 replace HB0:=Lib.hid (bl_t HB0.out hbq)
 replace HF:=Lib.hid (HF.out.below hbq)
 replace HW:=Lib.hid (blk_below HW.out hbq)
 replace HS:=Lib.hid (blk_below HS.out hbq)
 replace HL:=Lib.hid (HL.out.below hbq)
 clear hbq
 generalize w1.drewN nq = w2 at *
 have d0 : w2.cell? ⟨w.heap.size,0,none⟩ = some (Pa f):=HW.out.cell 0
 have k0 : w2.cell? ⟨(own ino).g,0,none⟩ = some (.int .i64 a.nd.kind):=(HF.out.node ino a ha).blk.cell 0
 have hWA:=Lib.hid (fw_walk HF.out HR.out HG.out HL.out tp false hto)
 rw [HWE.out] at hWA
 unfold wkV spotC at hWA
 by_cases hk : a.nd.kind = 2
 ·have hk' : (a.nd.kind == 2) = true:=by simpa using hk
  go_wp2
  go_ret
  exact ⟨163,fs,own,rfl,(HLR.out _ _).2 (.inl ⟨hk,rfl,rfl⟩),HF.out.more (Nat.le_succ c),KeepF.of_below HB0.out⟩
 ·have hk' : (a.nd.kind == 2) = false:=by simpa using hk
  go_upto_region 5 with (go_at_call 53; refine hWA.out.mono ?_; rintro e w4 ⟨rfl,hb4⟩; have HB4:=Lib.hid hb4; clear hb4)
  have hb5 : Below w2.heap.size w2 (w4.alloc (.cells #[.int .i64 wd,.string wn,.int .i64 wi] 119)):=HB4.out.alloc HB4.out.size _
  have HT:=Lib.hid (Blk.new w4 119 #[.int .i64 wd,.string wn,.int .i64 wi])
  have lt4 : w2.heap.size ≤ w4.heap.size:=HB4.out.size
  have lt5 : w4.heap.size < (w4.alloc (.cells #[.int .i64 wd,.string wn,.int .i64 wi] 119)).heap.size:=by simp
  clear k0 d0
  generalize w4.alloc (.cells #[.int .i64 wd,.string wn,.int .i64 wi] 119) = w5 at *
  have HB5:=Lib.hid hb5
  have HB05:=Lib.hid (bl_t HB0.out hb5)
  have HF5:=Lib.hid (HF.out.below hb5)
  have HW5:=Lib.hid (blk_below HW.out hb5)
  have HS5:=Lib.hid (blk_below HS.out hb5)
  have t2 : w5.cell? ⟨w4.heap.size,2,none⟩ = some (.int .i64 wi):=HT.out.cell 2
  have k3 : w5.cell? ⟨(own ino).g,3,none⟩ = some (.int .i64 a.nd.links):=(HF5.out.node ino a ha).blk.cell 3
  clear hb5
  by_cases hwc : wc_ = 0
  ·have hwc' : (wc_ != 0) = false:=by simpa using hwc
   by_cases hwi : wi = 0
   ·have hwi' : (wi != 0) = false:=by simpa using hwi
    by_cases hlm : a.nd.links = 1099511627776
    ·have hlm' : (a.nd.links == 1099511627776) = true:=by simpa using hlm
     have HY:=Lib.hid ((HLR.out 169 fs).2 (.inr (.inr (.inr (.inl ⟨hk,hwc,hwi,hlm,rfl,rfl⟩)))))
     clear hwc hwi hlm hk
     go_wp2
     go_ret
     exact ⟨169,fs,own,rfl,HY.out,HF5.out.more (Nat.le_succ c),KeepF.of_below HB05.out⟩
    ·have hlm' : (a.nd.links == 1099511627776) = false:=by simpa using hlm
     obtain ⟨sl,hsl,hsz,_⟩:=HWK.out.slot hwc
     have hsl1 : sl.1.1 = wd:=by rw [hsl]
     have hsl2 : sl.1.2 = wn:=by rw [hsl]
     have HY:=Lib.hid (fun code fs' (hfs : fs' = putG { fs with N:=upd fs.N ino { a with nd:={ a.nd with links:=a.nd.links + 1 } } } sl ino) (hcd : (code = 120 ∧ longS fs') ∨ (code = 0 ∧ ¬ longS fs'))=>(HLR.out code fs').2 (.inr (.inr (.inr (.inr ⟨hk,hwc,hwi,hlm,sl,hsl,hfs,hcd⟩)))))
     have hwr : wrap64 (a.nd.links + 1) = a.nd.links + 1:=by unfold wrap64; omega
     have fr3:=(HF5.out.node ino a ha).blk.frozen 3
     have hc6:=HF5.out.cell_ ino a ha 3 (.int .i64 (a.nd.links + 1)) { a.nd with links:=a.nd.links + 1 } rfl
     clear hwi hlm hk hsl
     go_upto_region 12 with fail
     have HF6:=Lib.hid hc6.1
     have HKF6:=Lib.hid (KeepF.after HB05.out hc6.2)
     have HW6:=Lib.hid (KeepF.blk hc6.2 HW5.out (by decide) (by decide))
     have HS6:=Lib.hid (KeepF.blk hc6.2 HS5.out (by decide) (by decide))
     have HT6:=Lib.hid (KeepF.blk hc6.2 HT.out (by decide) (by decide))
     clear hc6 t2 k3 fr3
     generalize w5.setCell ⟨(own ino).g,3,none⟩ (.int .i64 (a.nd.links + 1)) = w6 at *
     have d0 : w6.cell? ⟨w.heap.size,0,none⟩ = some (Pa f):=HW6.out.cell 0
     have s2 : w6.cell? ⟨w.heap.size + 1,2,none⟩ = some (.int .i64 ino):=HS6.out.cell 2
     have t0 : w6.cell? ⟨w4.heap.size,0,none⟩ = some (.int .i64 wd):=HT6.out.cell 0
     have t1 : w6.cell? ⟨w4.heap.size,1,none⟩ = some (.string wn):=HT6.out.cell 1
     have hP:=Lib.hid (fw_put HF6.out hn sl hsz ino hi hc)
     rw [hsl1,hsl2] at hP
     unfold wkV slotV at hP
     go_wp2_with (
      go_at_call 106
      refine hP.out.mono ?_
      rintro e w8 ⟨⟨er,rfl,hcase⟩,hF8,hKF8⟩
      have HC8:=Lib.hid hcase
      have HF8:=Lib.hid hF8
      have HKF8:=Lib.hid hKF8
      clear hcase hF8 hKF8)
     go_ret
     exact ⟨er,_,_,rfl,HY.out er _ rfl HC8.out,HF8.out,HKF6.out.trans HKF8.out⟩
   ·have hwi' : (wi != 0) = true:=by simpa using hwi
    have HY:=Lib.hid ((HLR.out 161 fs).2 (.inr (.inr (.inl ⟨hk,hwc,hwi,rfl,rfl⟩))))
    clear hwc hwi hk
    go_wp2
    go_ret
    exact ⟨161,fs,own,rfl,HY.out,HF5.out.more (Nat.le_succ c),KeepF.of_below HB05.out⟩
  ·have hwc' : (wc_ != 0) = true:=by simpa using hwc
   have HY:=Lib.hid ((HLR.out wc_ fs).2 (.inr (.inl ⟨hk,hwc,rfl,rfl⟩)))
   clear hwc hk
   go_wp2
   go_ret
   exact ⟨wc_,fs,own,rfl,HY.out,HF5.out.more (Nat.le_succ c),KeepF.of_below HB05.out⟩
end Go.Proofs.YtpboohfofodeeaaGreatDoor
