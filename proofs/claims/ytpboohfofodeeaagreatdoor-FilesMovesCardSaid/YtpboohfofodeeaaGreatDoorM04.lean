/- package key: Parse; state's text of a key (conditions: none). -/
import Derived.Test.YtpboohfofodeeaaGreatDoorM03
import Derived.Laws.RangeAny
import Derived.Test.YtpboohfofodeeaaGreatDoorM01
import Derived.Conc.MuLone
namespace Go.Proofs.YtpboohfofodeeaaGreatDoor
open Go.RowKit Go.Maps
/-- What a text's parts are, as Parse reads them: kind, number, name, index, error. -/
def rawKey (s : ByteArray) : Int × Int × ByteArray × Int × Int:=
 let b:=byteS s 0 0
 if b.1 = 110 then (110,0,⟨#[]⟩,0,b.2.2)
 else
  let f:=fixedS s b.2.1 b.2.2
  if b.1 = 112 then (let g:=fixedS s f.2.1 f.2.2; (112,IntKind.i64.wrap f.1,⟨#[]⟩,IntKind.i64.wrap g.1,g.2.2))
  else if b.1 = 100 ∨ b.1 = 120 then (b.1,IntKind.i64.wrap f.1,s.extract (s.size - (if f.2.2 = 0 then s.size - f.2.1 else 0)) s.size,0,f.2.2)
  else (b.1,IntKind.i64.wrap f.1,⟨#[]⟩,0,f.2.2)
/-- Is a text a key, of these parts? -/
def isKey (s : ByteArray) : Prop:=(rawKey s).2.2.2.2 = 0 ∧ keyRight (rawKey s).1 (rawKey s).2.1 (rawKey s).2.2.1 (rawKey s).2.2.2.1 ∧ keyText (rawKey s).1 (rawKey s).2.1 (rawKey s).2.2.1 (rawKey s).2.2.2.1 = s
theorem byteS_le {s : ByteArray} {k : Nat} {e : Int} (h : k ≤ s.size) : (byteS s k e).2.1 ≤ s.size ∧ 0 ≤ (byteS s k e).1 ∧ (byteS s k e).1 < 256:=by
 have:=bt_range s k
 unfold byteS
 split
 ·exact ⟨h,by simp,by simp⟩
 ·split
  ·exact ⟨h,by simp,by simp⟩
  ·exact ⟨by simp only; omega,by simp only; omega,by simp only; omega⟩
theorem fixedS_le {s : ByteArray} {k : Nat} {e : Int} (h : k ≤ s.size) : (fixedS s k e).2.1 ≤ s.size:=by
 unfold fixedS takeS
 split
 ·exact h
 ·split
  ·exact h
  ·simp only; omega
/-- A key read: which, or none. -/
def ParseEnds (s : ByteArray) (e : Ending) : Prop:=
 (isKey s ∧ e = .returned (.tuple #[keyV (rawKey s).1 (rawKey s).2.1 (rawKey s).2.2.1 (rawKey s).2.2.2.1,.int .i64 0])) ∨ (¬ isKey s ∧ e = .returned (.tuple #[keyV 0 0 ⟨#[]⟩ 0,.int .i64 81]))
theorem KeepCell {r : Nat} {w w' : World} (h : Keep (fun i=>i = r) w w') {p : Addr} {v : Value} (hc : w.cell? p = some v) (hn : p.block ≠ r) : w'.cell? p = some v:=h.cell hc hn
/-- Parse's memory: the result's block B, the reader's r, the key's g. -/
structure PsAt (w : World) (B r g : Nat) (s : ByteArray) (k : Nat) (e : Int) (cs : Array Value) (wx : World) : Prop where
 res : Blk wx B 99 (keyC 0 0 ⟨#[]⟩ 0)
 key : Blk wx g 99 cs
 rd : Rd wx r s k e
 bl : Below w.heap.size w wx
 b0 : w.heap.size ≤ B
 br : B ≠ r
 gr : g ≠ r
 bg : B ≠ g
 r0 : w.heap.size ≤ r
 g0 : w.heap.size ≤ g
section
variable {w wx wy : World} {B r g : Nat} {s : ByteArray} {k : Nat} {e : Int} {cs : Array Value}
theorem below_keep {r : Nat} {w wx wy : World} (h : Below w.heap.size w wx) (hr : w.heap.size ≤ r) (hk : Keep (fun i=>i = r) wx wy) : Below w.heap.size w wy:=
 h.trans ⟨hk.os,hk.tape,hk.output,hk.size,fun i hi=>hk.block i (Nat.lt_of_lt_of_le hi h.size) (by omega)⟩
theorem PsAt.keep (h : PsAt w B r g s k e cs wx) {k' : Nat} {e' : Int} (hr : Rd wy r s k' e') (hk : Keep (fun i=>i = r) wx wy) : PsAt w B r g s k' e' cs wy:=
 ⟨h.res.keep hk h.br,h.key.keep hk h.gr,hr,below_keep h.bl h.r0 hk,h.b0,h.br,h.gr,h.bg,h.r0,h.g0⟩
theorem PsAt.set (h : PsAt w B r g s k e cs wx) (j : Nat) (v : Value) : PsAt w B r g s k e (cs.setIfInBounds j v) (wx.setCell ⟨g,j,none⟩ v):=
 ⟨h.res.far (p:=⟨g,j,none⟩) h.bg v,h.key.set_ j v,h.rd.far (p:=⟨g,j,none⟩) (fun e=>h.gr e.symm) v,h.bl.setCell (p:=⟨g,j,none⟩) h.g0 v,h.b0,h.br,h.gr,h.bg,h.r0,h.g0⟩
theorem PsAt.drewN (h : PsAt w B r g s k e cs wx) (n : Nat) : PsAt w B r g s k e cs (wx.drewN n):=⟨h.res,h.key,h.rd,⟨h.bl.os,h.bl.tape,h.bl.output,h.bl.size,h.bl.block⟩,h.b0,h.br,h.gr,h.bg,h.r0,h.g0⟩
theorem PsAt.below (h : PsAt w B r g s k e cs wx) (hb : Below wx.heap.size wx wy) : PsAt w B r g s k e cs wy:=
 ⟨blk_below h.res hb,blk_below h.key hb,blk_below h.rd hb,bl_t h.bl hb,h.b0,h.br,h.gr,h.bg,h.r0,h.g0⟩
end
theorem pk_read_any (s : ByteArray) (w : World) : Calls Tryz.prog 96 #[.string s] w fun e w'=>∃ r,e = .returned (Pa r) ∧ w.heap.size ≤ r ∧ Rd w' r s 0 0 ∧ Below w.heap.size w w':=
 (pk_read s w).mono fun _ _ ⟨h1,h2,h3⟩=>⟨_,h1,Nat.le_refl _,h2,h3⟩
theorem ba_ext {a b : ByteArray} (h : a.toList = b.toList) : a = b:=by
 rw [toList_eq,toList_eq] at h
 exact ByteArray.ext (Array.ext' h)
theorem parse_yes {s : ByteArray} {a b : Int} {c : ByteArray} {d e : Int} (h : rawKey s = (a,b,c,d,e)) (he : e = 0) (hr : keyRight a b c d) (ht : (!(keyText a b c d).toList == s.toList) = false) :
 ParseEnds s (.returned (.tuple #[.agg #[.int .u8 a,.int .i64 b,.string c,.int .i64 d],.int .i64 0])):=by
 refine .inl ⟨?_,?_⟩
 ·unfold isKey; rw [h]; exact ⟨he,hr,ba_ext (by simpa using ht)⟩
 ·rw [h]; rfl
theorem parse_no {s : ByteArray} {a b : Int} {c : ByteArray} {d e : Int} (h : rawKey s = (a,b,c,d,e)) (hn : e ≠ 0 ∨ ¬ keyRight a b c d ∨ (!(keyText a b c d).toList == s.toList) = true) :
 ParseEnds s (.returned (.tuple #[.agg #[.int .u8 0,.int .i64 0,.string ⟨#[]⟩,.int .i64 0],.int .i64 81])):=by
 refine .inr ⟨?_,rfl⟩
 unfold isKey; rw [h]
 rintro ⟨he,hr,ht⟩
 rcases hn with hn | hn | hn
 ·exact hn he
 ·exact hn hr
 ·simp [ht] at hn
/-- How Make ends. -/
def MakeEnds (kind ino : Int) (name : ByteArray) (index : Int) (e : Ending) : Prop:=
 (keyRight kind ino name index ∧ e = .returned (.tuple #[.string (keyText kind ino name index),.int .i64 0])) ∨ (¬ keyRight kind ino name index ∧ e = .returned (.tuple #[.string ⟨#[]⟩,.int .i64 81]))
theorem ky_make_agg (kind ino : Int) (name : ByteArray) (index : Int) (w : World) (hs : name.size ≤ 140737488351232) :
 Calls Tryz.prog 118 #[.agg #[.int .u8 kind,.int .i64 ino,.string name,.int .i64 index]] w fun e w'=>MakeEnds kind ino name index e ∧ Below w.heap.size w w':=
 (ky_make ino w kind name index hs).mono fun _ _ ⟨h,hb⟩=>⟨h.imp (fun h=>⟨h.2,h.1⟩) (fun h=>⟨h.2,h.1⟩),hb⟩
theorem keyC_ino (a b : Int) (c : ByteArray) (d x : Int) : (keyC a b c d).setIfInBounds 1 (.int .i64 x) = keyC a x c d:=rfl
theorem keyC_name (a b : Int) (c : ByteArray) (d : Int) (x : ByteArray) : (keyC a b c d).setIfInBounds 2 (.string x) = keyC a b x d:=rfl
theorem keyC_index (a b : Int) (c : ByteArray) (d x : Int) : (keyC a b c d).setIfInBounds 3 (.int .i64 x) = keyC a b c x:=rfl
set_option maxRecDepth 100000 in
set_option maxHeartbeats 8000000 in
theorem ky_parse (s : ByteArray) (w : World) (hs : s.size ≤ 140737488351232) :
 Calls Tryz.prog 93 #[.string s] w fun e w'=>ParseEnds s e ∧ Below w.heap.size w w':=by
 have hq : rawKey s = rawKey s:=rfl
 have hb0:=byteS_le (s:=s) (k:=0) (e:=0) (Nat.zero_le _)
 have hRD : Hid (∀ (wz : World) (r : Nat),Rd wz r s 0 0 → Calls Tryz.prog 163 #[Pa r] wz (RdCall wz r s (.int .u8 (byteS s 0 0).1) (byteS s 0 0).2.1 (byteS s 0 0).2.2)):=fun wz r h=>rd_byte h (Nat.zero_le _) hs
 conv at hq=>rhs; unfold rawKey
 generalize byteS s 0 0 = bq at hb0 hRD hq
 obtain ⟨kd,k1,e1⟩:=bq
 simp only at hb0 hRD hq
 obtain ⟨hk1,hd0,hd1⟩:=hb0
 have HQ:=Lib.hid hq
 clear hq
 go_enter Tryz.func93,Tryz.ntmps93
 go_wp2_with fail
 refine (pk_read_any s _).mono ?_
 rintro e w1 ⟨r,rfl,hrr,hr,hb⟩
 have hR:=blk_below (Blk.new w 99 (keyC 0 0 ⟨#[]⟩ 0)) hb
 have hB : Below w.heap.size w w1:=bl_t ((Below.refl _ _).alloc (Nat.le_refl _) _) hb
 have hr1 : w.heap.size < r:=by have:=hrr; simp at this; omega
 have HR:=Lib.hid hR
 have HB:=Lib.hid hB
 have HRD:=Lib.hid hr
 clear hR hB hb hr hrr
 go_wp2_with fail
 refine (hRD.out _ _ HRD.out).mono ?_
 rintro e w2 ⟨rfl,hr,hk⟩
 have HP : Hid (PsAt w w.heap.size r w2.heap.size s k1 e1 (keyC kd 0 ⟨#[]⟩ 0) (w2.alloc (.cells (keyC kd 0 ⟨#[]⟩ 0) 99))):=
  ⟨(HR.out.keep hk (by omega)).alloc _,Blk.new _ _ _,hr.alloc _,(below_keep HB.out (by omega) hk).alloc (below_keep HB.out (by omega) hk).size _,Nat.le_refl _,by omega,Nat.ne_of_gt hr.lt,Nat.ne_of_lt (HR.out.keep hk (by omega)).lt,by omega,(below_keep HB.out (by omega) hk).size⟩
 clear hr hk HR HB HRD hRD
 have hp0:=HP.out.key.cell 0
 have hp1:=HP.out.key.cell 1
 have hp2:=HP.out.key.cell 2
 have hp3:=HP.out.key.cell 3
 have hfz:=F4.of_blk HP.out.key
 simp only [keyC,List.getElem?_toArray,List.getElem?_cons_zero,List.getElem?_cons_succ] at hp0 hp1 hp2 hp3
 generalize hg : w2.heap.size = g at *
 by_cases h110 : kd = 110
 ·subst h110
  rw [if_pos rfl] at HQ
  go_wp2_with fail
  refine (ky_make_agg 110 0 ⟨#[]⟩ 0 _ (by first | exact Nat.zero_le _ | omega)).mono ?_
  rintro e w5 ⟨hme,hb5⟩
  have HP5:=Lib.hid (HP.out.below hb5)
  obtain ⟨m0,m1,m2,m3⟩:=C4.of_blk HP5.out.res
  obtain ⟨n0,n1,n2,n3⟩:=C4.of_blk HP5.out.key
  obtain ⟨g0,g1,g2,g3⟩:=F4.of_blk HP5.out.res
  clear hb5
  rcases hme with ⟨hright,rfl⟩ | ⟨hwrong,rfl⟩
  ·have HT:=Lib.hid hright
   clear hright
   go_wp2_with (go_at_call 165; refine (rd_err HP5.out.rd).mono ?_; rintro e w' ⟨rfl,rfl⟩)
   all_goals
    first
     | refine bodyPost_ret (v:=.tuple #[.agg #[.int .u8 110,.int .i64 (0),.string (⟨#[]⟩),.int .i64 (0)],.int .i64 0]) (by simp [results,Tryz.results93,go_sem, *]) rfl ⟨parse_yes HQ.out (by assumption) HT.out (by assumption),?_⟩
     | refine bodyPost_ret (v:=.tuple #[.agg #[.int .u8 0,.int .i64 0,.string ⟨#[]⟩,.int .i64 0],.int .i64 81]) (by simp [results,Tryz.results93,go_sem, *]) rfl ⟨parse_no HQ.out (by first | exact .inl (by assumption) | exact .inr (.inr (by assumption))),?_⟩
    exact (((HP5.out.bl.setCell (Nat.le_refl _) _).setCell (Nat.le_refl _) _).setCell (Nat.le_refl _) _).setCell (Nat.le_refl _) _
  ·have HT:=Lib.hid hwrong
   clear hwrong
   go_wp2_with (go_at_call 165; refine (rd_err HP5.out.rd).mono ?_; rintro e w' ⟨rfl,rfl⟩)
   all_goals
    refine bodyPost_ret (v:=.tuple #[.agg #[.int .u8 0,.int .i64 0,.string ⟨#[]⟩,.int .i64 0],.int .i64 81]) (by simp [results,Tryz.results93,go_sem, *]) rfl ⟨parse_no HQ.out (.inr (.inl HT.out)),?_⟩
    exact (((HP5.out.bl.setCell (Nat.le_refl _) _).setCell (Nat.le_refl _) _).setCell (Nat.le_refl _) _).setCell (Nat.le_refl _) _
 ·rw [if_neg h110] at HQ
  have hf1:=fixedS_le (e:=e1) hk1
  have hRF : Hid (∀ (wz : World),Rd wz r s k1 e1 → Calls Tryz.prog 97 #[Pa r] wz (RdCall wz r s (.int .u64 (fixedS s k1 e1).1) (fixedS s k1 e1).2.1 (fixedS s k1 e1).2.2)):=fun wz h=>rd_fixed h hk1 hs
  generalize fixedS s k1 e1 = fq at hf1 hRF HQ
  obtain ⟨n2,k2,e2⟩:=fq
  simp only at hf1 hRF HQ
  have t110 : (kd == 110) = false:=by simpa using h110
  go_wp2_with fail
  refine (hRF.out _ HP.out.rd).mono ?_
  rintro e w3 ⟨rfl,hr,hk⟩
  have HP3:=Lib.hid (HP.out.keep hr hk)
  clear hr hk hRF
  obtain ⟨i0,i1,i2,i3⟩:=C4.of_blk HP3.out.key
  obtain ⟨f0,f1,f2,f3⟩:=F4.of_blk HP3.out.key
  generalize hino : IntKind.i64.wrap n2 = ino at HQ
  have HP4:=Lib.hid (HP3.out.set 1 (.int .i64 ino))
  by_cases h112 : kd = 112
  ·subst h112
   rw [if_pos rfl] at HQ
   have hf2:=fixedS_le (e:=e2) hf1
   have hRG : Hid (∀ (wz : World),Rd wz r s k2 e2 → Calls Tryz.prog 97 #[Pa r] wz (RdCall wz r s (.int .u64 (fixedS s k2 e2).1) (fixedS s k2 e2).2.1 (fixedS s k2 e2).2.2)):=fun wz h=>rd_fixed h hf1 hs
   generalize fixedS s k2 e2 = gq at hf2 hRG HQ
   obtain ⟨n3,k3,e3⟩:=gq
   simp only at hf2 hRG HQ
   go_wp2_with fail
   refine (hRG.out _ HP4.out.rd).mono ?_
   rintro e w4 ⟨rfl,hr,hk⟩
   have HP7:=Lib.hid (HP4.out.keep hr hk)
   clear hr hk hRG i0 i1 i2 i3 f0 f1 f2 f3
   obtain ⟨i0,i1,i2,i3⟩:=C4.of_blk HP7.out.key
   obtain ⟨f0,f1,f2,f3⟩:=F4.of_blk HP7.out.key
   generalize hind : IntKind.i64.wrap n3 = ind at HQ
   have HP8:=Lib.hid (HP7.out.set 3 (.int .i64 ind))
   go_wp2_with fail
   refine (ky_make_agg 112 ino ⟨#[]⟩ ind _ (by first | exact Nat.zero_le _ | omega)).mono ?_
   rintro e w5 ⟨hme,hb5⟩
   have HP5:=Lib.hid (HP8.out.below hb5)
   obtain ⟨m0,m1,m2,m3⟩:=C4.of_blk HP5.out.res
   obtain ⟨n0,n1,n2,n3⟩:=C4.of_blk HP5.out.key
   obtain ⟨g0,g1,g2,g3⟩:=F4.of_blk HP5.out.res
   clear hb5
   rcases hme with ⟨hright,rfl⟩ | ⟨hwrong,rfl⟩
   ·have HT:=Lib.hid hright
    clear hright
    go_wp2_with (go_at_call 165; refine (rd_err HP5.out.rd).mono ?_; rintro e w' ⟨rfl,rfl⟩)
    all_goals
     first
      | refine bodyPost_ret (v:=.tuple #[.agg #[.int .u8 112,.int .i64 (ino),.string (⟨#[]⟩),.int .i64 (ind)],.int .i64 0]) (by simp [results,Tryz.results93,go_sem, *]) rfl ⟨parse_yes HQ.out (by assumption) HT.out (by assumption),?_⟩
      | refine bodyPost_ret (v:=.tuple #[.agg #[.int .u8 0,.int .i64 0,.string ⟨#[]⟩,.int .i64 0],.int .i64 81]) (by simp [results,Tryz.results93,go_sem, *]) rfl ⟨parse_no HQ.out (by first | exact .inl (by assumption) | exact .inr (.inr (by assumption))),?_⟩
     exact (((HP5.out.bl.setCell (Nat.le_refl _) _).setCell (Nat.le_refl _) _).setCell (Nat.le_refl _) _).setCell (Nat.le_refl _) _
   ·have HT:=Lib.hid hwrong
    clear hwrong
    go_wp2_with (go_at_call 165; refine (rd_err HP5.out.rd).mono ?_; rintro e w' ⟨rfl,rfl⟩)
    all_goals
     refine bodyPost_ret (v:=.tuple #[.agg #[.int .u8 0,.int .i64 0,.string ⟨#[]⟩,.int .i64 0],.int .i64 81]) (by simp [results,Tryz.results93,go_sem, *]) rfl ⟨parse_no HQ.out (.inr (.inl HT.out)),?_⟩
     exact (((HP5.out.bl.setCell (Nat.le_refl _) _).setCell (Nat.le_refl _) _).setCell (Nat.le_refl _) _).setCell (Nat.le_refl _) _
  ·rw [if_neg h112] at HQ
   have t112 : (kd == 112) = false:=by simpa using h112
   by_cases hdx : kd = 100 ∨ kd = 120
   ·rw [if_pos hdx] at HQ
    have hL : Hid (∀ (wz : World),Rd wz r s k2 e2 → Calls Tryz.prog 164 #[Pa r] wz fun e w'=>e = .returned (.int .i64 ((if e2 = 0 then s.size - k2 else 0 : Nat) : Int)) ∧ ∃ n,wz.drewN n = w'):=fun wz h=>(rd_left h hf1 hs).mono fun _ _ ⟨h1,h2⟩=>⟨by rw [h1]; split <;> rfl,h2⟩
    have hlf : (if e2 = 0 then s.size - k2 else 0) ≤ s.size:=by split <;> omega
    generalize (if e2 = 0 then s.size - k2 else 0) = lf at hL hlf HQ
    have esub : ((s.size : Int) - lf).toNat = s.size - lf:=by omega
    have hxs : (s.extract (s.size - lf) s.size).size ≤ s.size:=by rw [ByteArray.size_extract]; omega
    generalize hnm : s.extract (s.size - lf) s.size = nm at HQ hxs
    rcases hdx with h | h
    ·subst h
     go_wp2_with fail
     refine (hL.out _ HP4.out.rd).mono ?_
     rintro e w4 ⟨rfl,nd,rfl⟩
     have HP8:=Lib.hid ((HP4.out.drewN nd).set 2 (.string nm))
     go_wp2_with fail
     refine (ky_make_agg 100 ino nm 0 _ (by first | exact Nat.zero_le _ | omega)).mono ?_
     rintro e w5 ⟨hme,hb5⟩
     have HP5:=Lib.hid (HP8.out.below hb5)
     obtain ⟨m0,m1,m2,m3⟩:=C4.of_blk HP5.out.res
     obtain ⟨n0,n1,n2,n3⟩:=C4.of_blk HP5.out.key
     obtain ⟨g0,g1,g2,g3⟩:=F4.of_blk HP5.out.res
     clear hb5
     rcases hme with ⟨hright,rfl⟩ | ⟨hwrong,rfl⟩
     ·have HT:=Lib.hid hright
      clear hright
      go_wp2_with (go_at_call 165; refine (rd_err HP5.out.rd).mono ?_; rintro e w' ⟨rfl,rfl⟩)
      all_goals
       first
        | refine bodyPost_ret (v:=.tuple #[.agg #[.int .u8 100,.int .i64 (ino),.string (nm),.int .i64 (0)],.int .i64 0]) (by simp [results,Tryz.results93,go_sem, *]) rfl ⟨parse_yes HQ.out (by assumption) HT.out (by assumption),?_⟩
        | refine bodyPost_ret (v:=.tuple #[.agg #[.int .u8 0,.int .i64 0,.string ⟨#[]⟩,.int .i64 0],.int .i64 81]) (by simp [results,Tryz.results93,go_sem, *]) rfl ⟨parse_no HQ.out (by first | exact .inl (by assumption) | exact .inr (.inr (by assumption))),?_⟩
       exact (((HP5.out.bl.setCell (Nat.le_refl _) _).setCell (Nat.le_refl _) _).setCell (Nat.le_refl _) _).setCell (Nat.le_refl _) _
     ·have HT:=Lib.hid hwrong
      clear hwrong
      go_wp2_with (go_at_call 165; refine (rd_err HP5.out.rd).mono ?_; rintro e w' ⟨rfl,rfl⟩)
      all_goals
       refine bodyPost_ret (v:=.tuple #[.agg #[.int .u8 0,.int .i64 0,.string ⟨#[]⟩,.int .i64 0],.int .i64 81]) (by simp [results,Tryz.results93,go_sem, *]) rfl ⟨parse_no HQ.out (.inr (.inl HT.out)),?_⟩
       exact (((HP5.out.bl.setCell (Nat.le_refl _) _).setCell (Nat.le_refl _) _).setCell (Nat.le_refl _) _).setCell (Nat.le_refl _) _
    ·subst h
     go_wp2_with fail
     refine (hL.out _ HP4.out.rd).mono ?_
     rintro e w4 ⟨rfl,nd,rfl⟩
     have HP8:=Lib.hid ((HP4.out.drewN nd).set 2 (.string nm))
     go_wp2_with fail
     refine (ky_make_agg 120 ino nm 0 _ (by first | exact Nat.zero_le _ | omega)).mono ?_
     rintro e w5 ⟨hme,hb5⟩
     have HP5:=Lib.hid (HP8.out.below hb5)
     obtain ⟨m0,m1,m2,m3⟩:=C4.of_blk HP5.out.res
     obtain ⟨n0,n1,n2,n3⟩:=C4.of_blk HP5.out.key
     obtain ⟨g0,g1,g2,g3⟩:=F4.of_blk HP5.out.res
     clear hb5
     rcases hme with ⟨hright,rfl⟩ | ⟨hwrong,rfl⟩
     ·have HT:=Lib.hid hright
      clear hright
      go_wp2_with (go_at_call 165; refine (rd_err HP5.out.rd).mono ?_; rintro e w' ⟨rfl,rfl⟩)
      all_goals
       first
        | refine bodyPost_ret (v:=.tuple #[.agg #[.int .u8 120,.int .i64 (ino),.string (nm),.int .i64 (0)],.int .i64 0]) (by simp [results,Tryz.results93,go_sem, *]) rfl ⟨parse_yes HQ.out (by assumption) HT.out (by assumption),?_⟩
        | refine bodyPost_ret (v:=.tuple #[.agg #[.int .u8 0,.int .i64 0,.string ⟨#[]⟩,.int .i64 0],.int .i64 81]) (by simp [results,Tryz.results93,go_sem, *]) rfl ⟨parse_no HQ.out (by first | exact .inl (by assumption) | exact .inr (.inr (by assumption))),?_⟩
       exact (((HP5.out.bl.setCell (Nat.le_refl _) _).setCell (Nat.le_refl _) _).setCell (Nat.le_refl _) _).setCell (Nat.le_refl _) _
     ·have HT:=Lib.hid hwrong
      clear hwrong
      go_wp2_with (go_at_call 165; refine (rd_err HP5.out.rd).mono ?_; rintro e w' ⟨rfl,rfl⟩)
      all_goals
       refine bodyPost_ret (v:=.tuple #[.agg #[.int .u8 0,.int .i64 0,.string ⟨#[]⟩,.int .i64 0],.int .i64 81]) (by simp [results,Tryz.results93,go_sem, *]) rfl ⟨parse_no HQ.out (.inr (.inl HT.out)),?_⟩
       exact (((HP5.out.bl.setCell (Nat.le_refl _) _).setCell (Nat.le_refl _) _).setCell (Nat.le_refl _) _).setCell (Nat.le_refl _) _
   ·rw [if_neg hdx] at HQ
    have t100 : (kd == 100) = false:=by simp; omega
    have t120 : (kd == 120) = false:=by simp; omega
    go_wp2_with fail
    refine (ky_make_agg kd ino ⟨#[]⟩ 0 _ (by first | exact Nat.zero_le _ | omega)).mono ?_
    rintro e w5 ⟨hme,hb5⟩
    have HP5:=Lib.hid (HP4.out.below hb5)
    obtain ⟨m0,m1,m2,m3⟩:=C4.of_blk HP5.out.res
    obtain ⟨n0,n1,n2,n3⟩:=C4.of_blk HP5.out.key
    obtain ⟨g0,g1,g2,g3⟩:=F4.of_blk HP5.out.res
    clear hb5
    rcases hme with ⟨hright,rfl⟩ | ⟨hwrong,rfl⟩
    ·have HT:=Lib.hid hright
     clear hright
     go_wp2_with (go_at_call 165; refine (rd_err HP5.out.rd).mono ?_; rintro e w' ⟨rfl,rfl⟩)
     all_goals
      first
       | refine bodyPost_ret (v:=.tuple #[.agg #[.int .u8 kd,.int .i64 (ino),.string (⟨#[]⟩),.int .i64 (0)],.int .i64 0]) (by simp [results,Tryz.results93,go_sem, *]) rfl ⟨parse_yes HQ.out (by assumption) HT.out (by assumption),?_⟩
       | refine bodyPost_ret (v:=.tuple #[.agg #[.int .u8 0,.int .i64 0,.string ⟨#[]⟩,.int .i64 0],.int .i64 81]) (by simp [results,Tryz.results93,go_sem, *]) rfl ⟨parse_no HQ.out (by first | exact .inl (by assumption) | exact .inr (.inr (by assumption))),?_⟩
      exact (((HP5.out.bl.setCell (Nat.le_refl _) _).setCell (Nat.le_refl _) _).setCell (Nat.le_refl _) _).setCell (Nat.le_refl _) _
    ·have HT:=Lib.hid hwrong
     clear hwrong
     go_wp2_with (go_at_call 165; refine (rd_err HP5.out.rd).mono ?_; rintro e w' ⟨rfl,rfl⟩)
     all_goals
      refine bodyPost_ret (v:=.tuple #[.agg #[.int .u8 0,.int .i64 0,.string ⟨#[]⟩,.int .i64 0],.int .i64 81]) (by simp [results,Tryz.results93,go_sem, *]) rfl ⟨parse_no HQ.out (.inr (.inl HT.out)),?_⟩
      exact (((HP5.out.bl.setCell (Nat.le_refl _) _).setCell (Nat.le_refl _) _).setCell (Nat.le_refl _) _).setCell (Nat.le_refl _) _
end Go.Proofs.YtpboohfofodeeaaGreatDoor
/- package inode: Number, NumberOf (conditions: none). -/
namespace Go.Proofs.YtpboohfofodeeaaGreatDoor
open Go.RowKit Go.Maps
/-- May it be a next number? -/
def numOk (n : Int) : Prop:=2 ≤ n ∧ n ≤ 1099511627777
def NumberEnds (n : Int) (e : Ending) : Prop:=(numOk n ∧ e = .returned (.tuple #[.string (fix8 n),.int .i64 0])) ∨ (¬ numOk n ∧ e = .returned (.tuple #[.string ⟨#[]⟩,.int .i64 1]))
theorem in_number (n : Int) (w : World) : Calls Tryz.prog 60 #[.int .i64 n] w fun e w'=>NumberEnds n e ∧ Below w.heap.size w w':=by
 by_cases h : numOk n
 ·have h':=h
  obtain ⟨h1,h2⟩:=h'
  have hu : IntKind.u64.wrap n = n:=by rw [IntKind.wrap_u64]; omega
  have hF:=pk_fixed n w (by rw [← hu]; exact u64_of n)
  have HF:=Lib.hid hF
  have HH:=Lib.hid h
  clear h hF
  go_enter Tryz.func60,Tryz.ntmps60
  go_wp2_with (go_at_call 62; refine HF.out.mono ?_; rintro e w' ⟨rfl,hb⟩)
  go_ret2
  exact ⟨.inl ⟨HH.out,rfl⟩,hb⟩
 ·have HH:=Lib.hid h
  have h' : n < 2 ∨ 1099511627777 < n:=by unfold numOk at h; omega
  clear h
  rcases h' with h' | h'
  all_goals
   go_enter Tryz.func60,Tryz.ntmps60
   go_wp2
   go_ret2
   exact ⟨.inr ⟨HH.out,rfl⟩,Below.refl _ _⟩
/-- The number of a text, as it is read; the error. -/
def rawNum (s : ByteArray) : Int × Int:=(IntKind.i64.wrap (fixedS s 0 0).1,if (fixedS s 0 0).2.2 = 0 then (if (fixedS s 0 0).2.1 < s.size then 22 else 0) else (fixedS s 0 0).2.2)
def isNum (s : ByteArray) : Prop:=numOk (rawNum s).1 ∧ (rawNum s).2 = 0
def NumberOfEnds (s : ByteArray) (e : Ending) : Prop:=(isNum s ∧ e = .returned (.tuple #[.int .i64 (rawNum s).1,.int .i64 0])) ∨ (¬ isNum s ∧ e = .returned (.tuple #[.int .i64 0,.int .i64 21]))
theorem fixedS_le' {s : ByteArray} {k : Nat} {e : Int} (h : k ≤ s.size) : (fixedS s k e).2.1 ≤ s.size:=by
 unfold fixedS takeS
 split
 ·exact h
 ·split
  ·exact h
  ·simp only; omega
theorem pk_read_any' (s : ByteArray) (w : World) : Calls Tryz.prog 96 #[.string s] w fun e w'=>∃ r,e = .returned (Pa r) ∧ w.heap.size ≤ r ∧ Rd w' r s 0 0 ∧ Below w.heap.size w w':=
 (pk_read s w).mono fun _ _ ⟨h1,h2,h3⟩=>⟨_,h1,Nat.le_refl _,h2,h3⟩
theorem below_keep' {r : Nat} {w wx wy : World} (h : Below w.heap.size w wx) (hr : w.heap.size ≤ r) (hk : Keep (fun i=>i = r) wx wy) : Below w.heap.size w wy:=
 h.trans ⟨hk.os,hk.tape,hk.output,hk.size,fun i hi=>hk.block i (Nat.lt_of_lt_of_le hi h.size) (by omega)⟩
theorem below_drewN {B : Nat} {w w' : World} (h : Below B w w') (n : Nat) : Below B w (w'.drewN n):=⟨h.os,h.tape,h.output,h.size,h.block⟩
theorem in_numberOf (s : ByteArray) (w : World) (hs : s.size ≤ 140737488351232) :
 Calls Tryz.prog 94 #[.string s] w fun e w'=>NumberOfEnds s e ∧ Below w.heap.size w w':=by
 have hq : rawNum s = rawNum s:=rfl
 conv at hq=>rhs; unfold rawNum
 have hf1:=fixedS_le' (s:=s) (k:=0) (e:=0) (Nat.zero_le _)
 have hRF : Hid (∀ (wz : World) (r : Nat),Rd wz r s 0 0 → Calls Tryz.prog 97 #[Pa r] wz (RdCall wz r s (.int .u64 (fixedS s 0 0).1) (fixedS s 0 0).2.1 (fixedS s 0 0).2.2)):=fun wz r h=>rd_fixed h (Nat.zero_le _) hs
 generalize fixedS s 0 0 = fq at hf1 hRF hq
 obtain ⟨n,k,e0⟩:=fq
 simp only at hf1 hRF hq
 generalize hnn : IntKind.i64.wrap n = m at hq
 have HQ:=Lib.hid hq
 clear hq
 go_enter Tryz.func94,Tryz.ntmps94
 go_wp2_with fail
 refine (pk_read_any' s _).mono ?_
 rintro e w1 ⟨r,rfl,hr0,hr,hb⟩
 go_wp2_with fail
 refine (hRF.out _ _ hr).mono ?_
 rintro e w2 ⟨rfl,hr2,hk⟩
 have HB2:=Lib.hid (below_keep' hb hr0 hk)
 have HR2:=Lib.hid hr2
 clear hr hb hk hr2 hRF
 go_wp2_with fail
 refine (in_number m _).mono ?_
 rintro e w3 ⟨hne,hb3⟩
 have HB3:=Lib.hid (bl_t HB2.out hb3)
 have HR3:=Lib.hid (blk_below HR2.out hb3 : Rd w3 r s k e0)
 clear hb3
 rcases hne with ⟨hok,rfl⟩ | ⟨hno,rfl⟩
 ·have HO:=Lib.hid hok
  clear hok
  have hE : Hid (∀ wz,Rd wz r s k e0 → Calls Tryz.prog 98 #[Pa r] wz fun e w'=>e = .returned (.int .i64 (if e0 = 0 then (if k < s.size then 22 else 0) else e0)) ∧ ∃ n,wz.drewN n = w'):=fun wz h=>rd_end h hf1 hs
  generalize (if e0 = 0 then (if k < s.size then (22 : Int) else 0) else e0) = er at HQ hE
  go_wp2_with (go_at_call 98; refine (hE.out _ HR3.out).mono ?_; rintro e w' ⟨rfl,nd,rfl⟩)
  all_goals go_ret2
  all_goals first
   | exact ⟨.inl ⟨by unfold isNum; rw [HQ.out]; exact ⟨HO.out,by simpa using (show (er != 0) = false by assumption)⟩,by rw [HQ.out]; rfl⟩,below_drewN HB3.out _⟩
   | exact ⟨.inr ⟨by unfold isNum; rw [HQ.out]; exact fun h=>absurd h.2 (by simpa using (show (er != 0) = true by assumption)),rfl⟩,below_drewN HB3.out _⟩
 ·have HO:=Lib.hid hno
  clear hno
  go_wp2
  go_ret2
  refine ⟨.inr ⟨?_,rfl⟩,HB3.out⟩
  unfold isNum; rw [HQ.out]; exact fun h=>HO.out h.1
end Go.Proofs.YtpboohfofodeeaaGreatDoor
/- package path: Name, Target (conditions: none). -/
namespace Go.Proofs.YtpboohfofodeeaaGreatDoor
open Go.RowKit Go.Maps
/-- No byte of a text is a slash or 0. -/
def plainT (l : List UInt8) : Prop:=∀ b ∈ l,b ≠ 47 ∧ b ≠ 0
instance (l : List UInt8) : Decidable (plainT l):=by unfold plainT; infer_instance
/-- Is it a name? -/
def nameB (s : ByteArray) : Bool:=decide (plainT s.data.toList) && (!s.toList.isEmpty && decide (s.size ≤ 255) && !(s.toList == [46]) && !(s.toList == [46,46]))
theorem decode_step (s : ByteArray) (pos : Nat) (h : pos < s.size) : 1 ≤ (Utf8.decode s pos).2 ∧ pos + (Utf8.decode s pos).2 ≤ s.size ∧ ∀ j,pos < j → j < pos + (Utf8.decode s pos).2 → 128 ≤ (s.get! j).toNat:=by
 unfold Utf8.decode
 simp only
 split
 ·exact ⟨by simp,by simp; omega,fun j h1 h2=>by simp at h2; omega⟩
 ·split
  ·rename_i h1 h2
   simp only [Bool.and_eq_true,beq_iff_eq,decide_eq_true_eq] at h2
   split
   ·refine ⟨by simp,by simp; omega,fun j a b=>?_⟩
    simp at b
    obtain rfl : j = pos + 1:=by omega
    have:=h2.2.2; omega
   ·exact ⟨by simp,by simp; omega,fun j h1 h2=>by simp at h2; omega⟩
  ·split
   ·rename_i h1 h2 h3
    simp only [Bool.and_eq_true,beq_iff_eq,decide_eq_true_eq] at h3
    split
    ·refine ⟨by simp,by simp; omega,fun j a b=>?_⟩
     simp at b
     rcases (by omega : j = pos + 1 ∨ j = pos + 2) with rfl | rfl
     ·have:=h3.1.2.2; omega
     ·have:=h3.2.2; omega
    ·exact ⟨by simp,by simp; omega,fun j h1 h2=>by simp at h2; omega⟩
   ·split
    ·rename_i h1 h2 h3 h4
     simp only [Bool.and_eq_true,beq_iff_eq,decide_eq_true_eq] at h4
     split
     ·refine ⟨by simp,by simp; omega,fun j a b=>?_⟩
      simp at b
      rcases (by omega : j = pos + 1 ∨ j = pos + 2 ∨ j = pos + 3) with rfl | rfl | rfl
      ·have:=h4.1.1.2.2; omega
      ·have:=h4.1.2.2; omega
      ·have:=h4.2.2; omega
     ·exact ⟨by simp,by simp; omega,fun j h1 h2=>by simp at h2; omega⟩
    ·exact ⟨by simp,by simp; omega,fun j h1 h2=>by simp at h2; omega⟩
theorem plainT_iff (s : ByteArray) : plainT s.data.toList ↔ ∀ j (h : j < s.size),(s[j]'h).toNat ≠ 47 ∧ (s[j]'h).toNat ≠ 0:=by
 unfold plainT
 constructor
 ·intro h j hj
  have:=h (s[j]'hj) (by rw [Array.mem_toList_iff]; exact Array.getElem_mem hj)
  refine ⟨fun e=>this.1 ?_,fun e=>this.2 ?_⟩
  ·exact UInt8.toNat_inj.1 e
  ·exact UInt8.toNat_inj.1 e
 ·intro h b hb
  obtain ⟨j,hj,rfl⟩:=List.getElem_of_mem hb
  have hj' : j < s.size:=by simpa using hj
  have:=h j hj'
  refine ⟨fun e=>this.1 ?_,fun e=>this.2 ?_⟩
  ·have e' : s[j] = 47:=e; rw [e']; rfl
  ·have e' : s[j] = 0:=e; rw [e']; rfl
theorem get_of (s : ByteArray) (j : Nat) (h : j < s.size) : s.get! j = s[j]'h:=by
 have:=get_at s j h
 simpa using this
set_option maxRecDepth 100000 in
set_option maxHeartbeats 1000000 in
theorem pt_name (s : ByteArray) (w : World) (hs : s.size ≤ 140737488351232) :
 Calls Tryz.prog 52 #[.string s] w fun e w'=>e = .returned (.bool (nameB s)) ∧ Below w.heap.size w w':=by
 have hbl : Hid (∀ p,Below w.heap.size w (w.iter s p)):=fun p=>(Below.refl _ _).alloc (Nat.le_refl _) _
 go_enter Tryz.func52,Tryz.ntmps52
 go_wp2
 go_loopw [4,7] (fun _ _ wr=>∃ pos : Nat,pos ≤ s.size ∧ wr = w.iter s pos ∧ Hid (∀ j (h : j < s.size),j < pos → (s[j]'h).toNat ≠ 47 ∧ (s[j]'h).toNat ≠ 0)) (fun _ _ wr=>s.size - wr.iterPos w.heap.size)
 case atStart=>exact ⟨0,by omega,rfl,fun j _ h=>by omega⟩
 case round=>
  obtain ⟨pos,hpos,rfl,hj⟩:=hrel
  by_cases hlt : pos < s.size
  ·have hst:=decode_step s pos hlt
   have hnx:=fun ty=>run_next_any (P:=Tryz.prog) w s pos ty hlt
   by_cases ha : (s[pos]'hlt).toNat < 128
   ·have hd:=decode_ascii s pos hlt ha
    rw [hd] at hnx
    simp only at hnx
    have hbb : ((s[pos]'hlt).toNat : Int) < 256:=by omega
    generalize hb : (s[pos]'hlt).toNat = b at hnx ha hbb
    have HB:=Lib.hid hb
    clear hb hd hst
    by_cases h47 : b = 47 ∨ b = 0
    ·have hno : nameB s = false:=by
      unfold nameB
      rw [decide_eq_false (fun h=>by
       have:=(plainT_iff s).1 h pos hlt
       rw [HB.out] at this
       omega)]
      rfl
     have HNO:=Lib.hid hno
     clear hno
     rcases h47 with h | h
     all_goals
      subst h
      go_wp2
      go_ret
      rw [HNO.out]
      exact ⟨rfl,hbl.out _⟩
    ·have hc1 : ((b : Int) == 47) = false:=by simp; omega
     have hc2 : ((b : Int) == 0) = false:=by simp; omega
     go_wp2
     go_roundw
     case rel=>
      refine ⟨pos + 1,by omega,rfl,fun j h hjp=>?_⟩
      rcases Nat.lt_succ_iff_lt_or_eq.1 hjp with h1 | rfl
      ·exact hj j h h1
      ·rw [HB.out]; omega
     case measure=>simp; omega
   ·have hd:=decode_high s pos hlt (by omega)
    generalize Utf8.decode s pos = q at hnx hst hd
    obtain ⟨c,n⟩:=q
    simp only at hnx hst hd
    have hc1 : ((c : Int) == 47) = false:=by simp; omega
    have hc2 : ((c : Int) == 0) = false:=by simp; omega
    have HST:=Lib.hid hst
    clear hst
    go_wp2
    go_roundw
    case rel=>
     refine ⟨pos + n,HST.out.2.1,rfl,fun j h hjp=>?_⟩
     rcases Nat.lt_trichotomy j pos with h1 | rfl | h1
     ·exact hj j h h1
     ·omega
     ·have:=HST.out.2.2 j h1 hjp
      rw [get_of s j h] at this
      omega
    case measure=>have:=HST.out.1; simp; omega
  ·obtain rfl : pos = s.size:=by omega
   have hyes : nameB s = (!s.toList.isEmpty && decide (s.size ≤ 255) && !(s.toList == [46]) && !(s.toList == [46,46])):=by
    unfold nameB
    rw [decide_eq_true ((plainT_iff s).2 (fun j h=>hj j h h))]
    rfl
   have hnx:=fun ty=>run_next_end (P:=Tryz.prog) w s s.size ty (by omega)
   have HY:=Lib.hid hyes
   clear hyes hj
   go_wp2
   all_goals go_ret
   all_goals rw [HY.out]
   all_goals refine ⟨?_,hbl.out _⟩
   all_goals by_cases h255 : s.size ≤ 255
   all_goals first
    |(exfalso; omega)
    | simp [*]
/-- Is it a symlink's target? -/
def targetB (s : ByteArray) : Bool:=!s.toList.isEmpty && (decide (s.size ≤ 100) && !decide (0 ≤ Lib.indexByte s.data.toList 0))
theorem pt_target (s : ByteArray) (w : World) (hs : s.size ≤ 140737488351232) :
 Calls Tryz.prog 51 #[.string s] w fun e w'=>e = .returned (.bool (targetB s)) ∧ w = w':=by
 have hF : Hid (∀ W,Calls Tryz.prog 102 #[.string s,.string ⟨#[0]⟩] W fun e w'=>e = .returned (.bool (decide (0 ≤ Lib.indexByte s.data.toList 0))) ∧ w' = W):=fun W=>Tryz.strings_Contains_one s 0 W
 generalize hq : decide (0 ≤ Lib.indexByte s.data.toList 0) = q at hF
 have HQ:=Lib.hid hq
 clear hq
 go_enter Tryz.func51,Tryz.ntmps51
 go_wp2_with (go_at_call 102; refine (hF.out _).mono ?_; rintro e w' ⟨rfl,rfl⟩)
 all_goals go_ret
 all_goals refine ⟨?_,rfl⟩
 all_goals unfold targetB
 all_goals rw [HQ.out]
 all_goals by_cases h100 : s.size ≤ 100
 all_goals first
  |(exfalso; omega)
  | simp [*]
end Go.Proofs.YtpboohfofodeeaaGreatDoor
/- slices.IndexFunc, ContainsFunc at a slice of strings; package path: names, Split, Lead (conditions: none). -/
namespace Go.Proofs.YtpboohfofodeeaaGreatDoor
open Go.RowKit Go.Maps
/-- A slice whose elements are one cell each, read as a list; nil and empty ones too. -/
def RdV (w : World) (A : Option Addr) (n : Nat) (xs : List Value) : Prop:=xs.length = n ∧ (0 < n → ∃ ad,A = some ad ∧ ∀ j u,xs[j]? = some u → w.cell? (ad.add j) = some u)
theorem keepc' {w w' : World} (hb : Below w.heap.size w w') {p : Addr} {v : Value} (hc : w.cell? p = some v) : w'.cell? p = some v:=(hb.cell (World.block_lt_of_cell? w p hc)).trans hc
section
variable {w w' : World} {A : Option Addr} {n c : Nat} {xs : List Value}
theorem RdV.below (h : RdV w A n xs) (hb : Below w.heap.size w w') : RdV w' A n xs:=⟨h.1,fun hn=>by
 obtain ⟨ad,e,hc⟩:=h.2 hn
 exact ⟨ad,e,fun j u hu=>keepc' hb (hc j u hu)⟩⟩
theorem RdV.nil_ (w : World) (A : Option Addr) : RdV w A 0 []:=⟨rfl,fun h=>absurd h (by omega)⟩
theorem RdV.at_ (h : RdV w A n xs) {k : Nat} (hk : k < n) : ∃ ad u,A = some ad ∧ xs[k]? = some u ∧ w.cell? (ad.add k) = some u:=by
 obtain ⟨ad,e,hc⟩:=h.2 (by omega)
 have hl : k < xs.length:=by have:=h.1; omega
 exact ⟨ad,xs[k],e,List.getElem?_eq_getElem hl,hc k _ (List.getElem?_eq_getElem hl)⟩
theorem RdV.cut (h : RdV w A n xs) {k cap : Nat} (hk : k ≤ n) (hc : n ≤ cap) : RdV w (if cap = k then A else A.map (·.add (k * 1))) (n - k) (xs.drop k):=by
 refine ⟨by rw [List.length_drop,h.1],fun hn=>?_⟩
 obtain ⟨ad,rfl,hcell⟩:=h.2 (by omega)
 rw [if_neg (by omega)]
 refine ⟨ad.add (k * 1),rfl,fun j u hu=>?_⟩
 have e : (ad.add (k * 1)).add j = ad.add (k + j):=by
  unfold Addr.add
  by_cases hi : k = 0 <;> by_cases hj : j = 0 <;> simp [hi,hj,Nat.add_assoc]
 rw [e]
 exact hcell _ u (by rw [← hu,List.getElem?_drop])
theorem RdV.of_blk {g : Nat} {t : TypeId} {cs : Array Value} (h : Blk w g t cs) : RdV w (some ⟨g,0,none⟩) cs.size cs.toList:=⟨by simp,fun _=>⟨_,rfl,fun j u hu=>by
 have e : (⟨g,0,none⟩ : Addr).add j = ⟨g,j,none⟩:=by unfold Addr.add; split <;> simp_all
 rw [e,h.cell j]
 simpa using hu⟩⟩
end
def strV (l : List ByteArray) : List Value:=l.map Value.string
/-- What a function value answers of texts. -/
def PredS (g : FuncId) (M : Nat) (p : ByteArray → Bool) : Prop:=(∀ x W,(callFunc g #[.string x]).run Tryz.prog W = .ok (.enter g #[.string x]) W) ∧ ∀ x W,x.size ≤ M → Calls Tryz.prog g #[.string x] W fun e w'=>e = .returned (.bool (p x)) ∧ Below W.heap.size W w'
def IdxEnds (p : ByteArray → Bool) (xs : List ByteArray) (e : Ending) : Prop:=∃ i : Int,e = .returned (.int .i64 i) ∧ (decide (0 ≤ i) = xs.any p)
set_option maxRecDepth 100000 in
theorem sl_indexFunc {w : World} {A : Option Addr} {n c : Nat} {xs : List ByteArray} {g : FuncId} {M : Nat} {p : ByteArray → Bool} (hR : RdV w A n (strV xs)) (hM : ∀ x ∈ xs,x.size ≤ M) (hp : PredS g M p) (hn : n ≤ 140737488351232) :
 Calls Tryz.prog 233 #[.slice A n c,.func (Fn.func g) #[] #[]] w fun e w'=>IdxEnds p xs e ∧ Below w.heap.size w w':=by
 have HP:=Lib.hid hp.2
 have HEN:=Lib.hid hp.1
 have HR:=Lib.hid hR
 clear hp hR
 go_enter Tryz.func233,Tryz.ntmps233
 go_wp2
 go_loopw [5,8] (fun _ i wr=>∃ k : Nat,k ≤ n ∧ i = .int .i64 k ∧ Below w.heap.size w wr ∧ Hid (∀ x ∈ xs.take k,p x = false)) (fun _ i _=>n - (intOf i).toNat)
 case atStart=>exact ⟨0,by omega,rfl,Below.refl _ _,Lib.hid (by simp)⟩
 case round=>
  obtain ⟨k,hk,rfl,hb,hno⟩:=hrel
  by_cases hlt : k < n
  ·have hR2:=HR.out.below hb
   obtain ⟨ad,u,rfl,hx,hc⟩:=hR2.at_ hlt
   have hl : k < xs.length:=by have:=hR2.1; simp [strV] at this; omega
   obtain rfl : u = .string xs[k]:=by simpa [strV,List.getElem?_eq_getElem hl] using hx.symm
   have hz:=hM xs[k] (List.getElem_mem hl)
   clear hx hR2
   have hpk:=HP.out xs[k] wr hz
   generalize hxk : xs[k] = x at hc hpk hz
   have HXK:=Lib.hid hxk
   have HL:=Lib.hid hl
   clear hxk
   cases hpx : p x
   ·rw [hpx] at hpk
    have HC:=Lib.hid hpk
    have HPX:=Lib.hid hpx
    clear hpk hpx
    have hen:=HEN.out x wr
    go_wp2_with fail
    refine HC.out.mono ?_
    rintro e w2 ⟨rfl,hb2⟩
    have HB2:=Lib.hid (bl_t hb hb2)
    clear hb2 HC
    go_wp2
    go_roundw
    case rel=>
     refine ⟨k + 1,by omega,by go_num,HB2.out,Lib.hid (fun y hy=>?_)⟩
     rw [List.take_succ_eq_append_getElem HL.out,List.mem_append,List.mem_singleton] at hy
     rcases hy with hy | rfl
     ·exact hno.out y hy
     ·rw [HXK.out]; exact HPX.out
    case measure=>simp [intOf]; omega
   ·rw [hpx] at hpk
    have HC:=Lib.hid hpk
    have HPX:=Lib.hid hpx
    clear hpk hpx
    have hen:=HEN.out x wr
    go_wp2_with fail
    refine HC.out.mono ?_
    rintro e w2 ⟨rfl,hb2⟩
    have HB2:=Lib.hid (bl_t hb hb2)
    clear hb2 HC
    go_wp2
    go_ret
    refine ⟨⟨(k : Int),rfl,?_⟩,HB2.out⟩
    rw [decide_eq_true (by omega),eq_comm,List.any_eq_true]
    exact ⟨x,by rw [← HXK.out]; exact List.getElem_mem HL.out,HPX.out⟩
  ·go_wp2
   go_ret
   refine ⟨⟨-1,rfl,?_⟩,hb⟩
   rw [decide_eq_false (by omega),eq_comm,List.any_eq_false]
   intro x hx
   have hl : xs.length ≤ k:=by have:=HR.out.1; simp [strV] at this; omega
   have:=hno.out x (by rw [List.take_of_length_le hl]; exact hx)
   simp [this]
theorem sl_containsFunc {w : World} {A : Option Addr} {n c : Nat} {xs : List ByteArray} {g : FuncId} {M : Nat} {p : ByteArray → Bool} (hR : RdV w A n (strV xs)) (hM : ∀ x ∈ xs,x.size ≤ M) (hp : PredS g M p) (hn : n ≤ 140737488351232) :
 Calls Tryz.prog 173 #[.slice A n c,.func (Fn.func g) #[] #[]] w fun e w'=>e = .returned (.bool (xs.any p)) ∧ Below w.heap.size w w':=by
 have HF:=Lib.hid (sl_indexFunc (c:=c) hR hM hp hn)
 clear hp hR
 go_enter Tryz.func173,Tryz.ntmps173
 go_wp2_with fail
 refine HF.out.mono ?_
 rintro e w2 ⟨⟨i,rfl,hi⟩,hb2⟩
 have HI:=Lib.hid hi
 have HB:=Lib.hid hb2
 clear hi hb2
 go_wp2
 go_ret
 exact ⟨by rw [← HI.out]; rfl,HB.out⟩

theorem pt_notName (M : Nat) (hM : M ≤ 140737488351232) : PredS 174 M (fun s=>!nameB s):=by
 refine ⟨fun x W=>Go.MuLone.run_callFunc_enter Tryz.func174 (by kernel_rfl) rfl _ W,?_⟩
 intro s w hs
 show Calls _ _ _ _ fun e w'=>e = .returned (.bool (!nameB s)) ∧ Below w.heap.size w w'
 have HF:=Lib.hid (pt_name s w (by omega))
 generalize nameB s = b at HF ⊢
 go_enter Tryz.func174,Tryz.ntmps174
 go_wp2_with (go_at_call 52; refine HF.out.mono ?_; rintro e w' ⟨rfl,hb⟩)
 go_ret
 exact ⟨rfl,hb⟩
theorem pt_notLead (M : Nat) (hM : M ≤ 140737488351232) : PredS 176 M (fun s=>!(s.toList == [46,46]) && !nameB s):=by
 refine ⟨fun x W=>Go.MuLone.run_callFunc_enter Tryz.func176 (by kernel_rfl) rfl _ W,?_⟩
 intro s w hs
 show Calls _ _ _ _ fun e w'=>e = .returned (.bool (!(s.toList == [46,46]) && !nameB s)) ∧ Below w.heap.size w w'
 have HF:=Lib.hid (pt_name s w (by omega))
 generalize nameB s = b at HF ⊢
 go_enter Tryz.func176,Tryz.ntmps176
 go_wp2_with (go_at_call 52; refine HF.out.mono ?_; rintro e w' ⟨rfl,hb⟩)
 all_goals go_ret
 ·exact ⟨by simp [*],Below.refl _ _⟩
 ·exact ⟨by simp [*],hb⟩
end Go.Proofs.YtpboohfofodeeaaGreatDoor
