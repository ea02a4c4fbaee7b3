/- files: does, whole (conditions: none). -/
import Derived.Test.YtpboohfofodeeaaGreatDoorM32
import Derived.Test.YtpboohfofodeeaaGreatDoorM33
import Derived.Test.YtpboohfofodeeaaGreatDoorM34
import Derived.Test.YtpboohfofodeeaaGreatDoorM35
import Derived.Test.YtpboohfofodeeaaGreatDoorM38
import Derived.Test.YtpboohfofodeeaaGreatDoorM13
import Derived.Test.YtpboohfofodeeaaGreatDoorM15
import Derived.Test.YtpboohfofodeeaaGreatDoorM36
import Derived.Deep.RegionWith
import Derived.Test.YtpboohfofodeeaaGreatDoorM23
import Derived.Test.YtpboohfofodeeaaGreatDoorM21
import Derived.Test.YtpboohfofodeeaaGreatDoorM31
import Derived.Test.YtpboohfofodeeaaGreatDoorM27
namespace Go.Proofs.YtpboohfofodeeaaGreatDoor
open Go.RowKit Go.Maps
theorem fw_does [Fence] {c : Nat} {w : World} {f b m : Nat} {own : Int → Own} {fs : FS} (h : FlsB c w f b m own fs) (ok : FsOk fs) (hlv : LibV w) (o : OpA) (hz : OpSmall o) (ho : OpInts o) (hc : c ≤ 137438953472) (hk : 1 ≤ o.kind ∧ o.kind ≤ 21) :
 Calls Tryz.prog 30 #[wkV f,o.val] w (DoesEnds c w f b m fs o):=by
 have hk' : o.kind = 1 ∨ o.kind = 2 ∨ o.kind = 3 ∨ o.kind = 4 ∨ o.kind = 5 ∨ o.kind = 6 ∨ o.kind = 7 ∨ o.kind = 8 ∨ o.kind = 9 ∨ o.kind = 10 ∨ o.kind = 11 ∨ o.kind = 12 ∨ o.kind = 13 ∨ o.kind = 14 ∨ o.kind = 15 ∨ o.kind = 16 ∨ o.kind = 17 ∨ o.kind = 18 ∨ o.kind = 19 ∨ o.kind = 20 ∨ o.kind = 21:=by omega
 rcases hk' with k | k | k | k | k | k | k | k | k | k | k | k | k | k | k | k | k | k | k | k | k
 ·exact does_1 h ok hlv o hz ho hc k _ rfl
 ·exact does_2 h ok hlv o hz ho hc k _ rfl
 ·exact does_3 h ok hlv o hz ho hc k _ rfl
 ·exact does_4 h ok hlv o hz ho hc k _ rfl
 ·exact does_5 h ok hlv o hz ho hc k _ rfl
 ·exact does_6 h ok hlv o hz ho hc k _ rfl
 ·exact does_7 h ok hlv o hz ho hc k _ rfl
 ·exact does_b h ok hlv o hz ho hc (by omega) _ rfl
 ·exact does_b h ok hlv o hz ho hc (by omega) _ rfl
 ·exact does_b h ok hlv o hz ho hc (by omega) _ rfl
 ·exact does_b h ok hlv o hz ho hc (by omega) _ rfl
 ·exact does_f h ok hlv o hz ho hc (by omega) _ rfl
 ·exact does_f h ok hlv o hz ho hc (by omega) _ rfl
 ·exact does_f h ok hlv o hz ho hc (by omega) _ rfl
 ·exact does_f h ok hlv o hz ho hc (by omega) _ rfl
 ·exact does_t h ok hlv o hz ho hc (by omega) _ rfl
 ·exact does_t h ok hlv o hz ho hc (by omega) _ rfl
 ·exact does_t h ok hlv o hz ho hc (by omega) _ rfl
 ·exact does_f h ok hlv o hz ho hc (by omega) _ rfl
 ·exact does_f h ok hlv o hz ho hc (by omega) _ rfl
 ·exact does_b h ok hlv o hz ho hc (by omega) _ rfl
end Go.Proofs.YtpboohfofodeeaaGreatDoor
/- files.Do: an operation on items (conditions: none). -/
namespace Go.Proofs.YtpboohfofodeeaaGreatDoor
open Go.RowKit Go.Maps
def DoEnds (w : World) (l : List (ByteArray × ByteArray)) (o : OpA) (e : Ending) (w' : World) : Prop:=
 ∃ (v : Value) (an : Ans) (p : AnsP) (l' : List (ByteArray × ByteArray)),e = .returned (.tuple #[v,an.val]) ∧ DoR l o p l' ∧ AnsIn w' w.heap.size an p ∧ w'.ownsRow w.heap.size 59 2 v l'.length (itCs l') ∧ Below w.heap.size w w'
theorem do_results {tm : Array Value} {W : World} {b : Nat} {v : Value} {a : Ans} (h1 : tm.getD 4 undef = v) (h2 : tm.getD 5 undef = .pointer (some ⟨b,0,none⟩)) (hB : Blk W b 36 a.cs) :
 (results Tryz.f14 tm).run Tryz.prog W = .ok (.tuple #[v,a.val]) W:=by
 obtain ⟨c0,c1,c2,c3,c4,c5,c6,c7,c8,c9,c10⟩:=ans_cells hB
 unfold Ans.val Ans.cs
 clear hB
 rw [Array.getD_eq_getD_getElem?] at h1 h2
 simp [results,Tryz.results14,go_sem, *]
/-- The operation's box, and the answer's. -/
theorem do_at (w : World) (o : OpA) : Blk ((w.alloc (.cells #[.int .i64 o.kind,.string o.path,.string o.dest,.string o.name,.int .i64 o.off,.int .i64 o.n,.string o.data] 24)).alloc (.cells #[.int .i64 0,.string ⟨#[]⟩,.slice none 0 0,.slice none 0 0,.int .i64 0,.int .i64 0,.int .i64 0,.int .i64 0,.int .i64 0,.int .i64 0,.string ⟨#[]⟩] 36)) w.heap.size 24 o.cs ∧ Blk ((w.alloc (.cells #[.int .i64 o.kind,.string o.path,.string o.dest,.string o.name,.int .i64 o.off,.int .i64 o.n,.string o.data] 24)).alloc (.cells #[.int .i64 0,.string ⟨#[]⟩,.slice none 0 0,.slice none 0 0,.int .i64 0,.int .i64 0,.int .i64 0,.int .i64 0,.int .i64 0,.int .i64 0,.string ⟨#[]⟩] 36)) (w.heap.size + 1) 36 ans0.cs ∧ Below w.heap.size w ((w.alloc (.cells #[.int .i64 o.kind,.string o.path,.string o.dest,.string o.name,.int .i64 o.off,.int .i64 o.n,.string o.data] 24)).alloc (.cells #[.int .i64 0,.string ⟨#[]⟩,.slice none 0 0,.slice none 0 0,.int .i64 0,.int .i64 0,.int .i64 0,.int .i64 0,.int .i64 0,.int .i64 0,.string ⟨#[]⟩] 36)):=by
 have e1 : (w.alloc (.cells o.cs 24)).heap.size = w.heap.size + 1:=by simp
 have hO:=(Blk.new w 24 o.cs).alloc (.cells ans0.cs 36)
 have hA:=Blk.new (w.alloc (.cells o.cs 24)) 36 ans0.cs
 rw [e1] at hA
 exact ⟨hO,hA,((Below.refl _ _).alloc (Nat.le_refl _) _).alloc (by simp) _⟩
theorem DoesR.out {fs fs' : FS} {o : OpA} {p : AnsP} {l : List (ByteArray × ByteArray)} (ht : takeL fs0 none l = some fs) (hr : RightFS fs) (hw : WfG fs) (hm : mayS o = 0) (h : DoesR fs o p fs') : Itm (l.length + 5001) fs':=by
 have hk:=take_ok ht takeOk0
 exact ((hk.itm hr).does_ (hk.fsOk hr) hw hm h).mono (by omega)
theorem do_end {w W6 W7 : World} {r : Nat} {l l' : List (ByteArray × ByteArray)} {o : OpA} {v : Value} {an : Ans} {p : AnsP} {cs : Array Value} (hA : Blk W6 r 36 cs) (hk : Below w.heap.size w W6) (hr : w.heap.size ≤ r) (hi : AnsIn W6 w.heap.size an p) (hN : DoR l o p l') (hl : W6.ownsRow w.heap.size 59 2 v l'.length (itCs l')) (h7 : Keep (fun i=>i = r) W6 W7) :
 DoEnds w l o (.returned (.tuple #[v,an.val])) W7:=⟨v,an,p,l',rfl,hN,hi.keep hA h7,blk_of_own hl hA (by decide) h7,hk.trans (h7.to_below (B:=w.heap.size) hk.size (fun i h=>by omega))⟩
theorem blk_drew {w : World} {g : Nat} {t : TypeId} {cs : Array Value} (h : Blk w g t cs) : Blk w.drew g t cs:=h
theorem rowK_below {w w' : World} {base : Nat} {e : TypeId} {size n : Nat} {v : Value} {xs : List Value} (h : w.ownsRow base e size v n xs) (hb : Below w.heap.size w w') : w'.ownsRow base e size v n xs:=own_keep h (Keep.of_below hb (fun _=>False)) (fun _ _ h=>h)
theorem AnsIn.below {w w' : World} {base : Nat} {an : Ans} {p : AnsP} (h : AnsIn w base an p) (hb : Below w.heap.size w w') : AnsIn w' base an p:=
 ⟨h.code,h.data,rowK_below h.names hb,rowK_below h.ranges hb,h.ino,h.nd⟩
set_option maxRecDepth 100000 in
set_option maxHeartbeats 16000000 in
theorem fw_do {w : World} {A : Option Addr} {n q : Nat} (l : List (ByteArray × ByteArray)) (hR : RdI w A n l) (hn : n ≤ 137438953000) (hz : ∀ x ∈ l,x.1.size ≤ 140737488351232 ∧ x.2.size ≤ 140737488351232) (hlv : LibV w) (o : OpA) (hso : OpSmall o) (ho : OpInts o) :
 Calls Tryz.prog 14 #[.slice A n q,o.val] w (DoEnds w l o):=by
 obtain ⟨hop,han,hbl⟩:=do_at w o
 have hRD:=hR.below (Nat.le_refl _) hbl
 have hLV:=hlv.below hbl
 unfold OpA.val OpA.cs
 go_enter Tryz.func14,Tryz.ntmps14
 go_upto_region 1 with fail
 generalize (w.alloc (.cells #[.int .i64 o.kind,.string o.path,.string o.dest,.string o.name,.int .i64 o.off,.int .i64 o.n,.string o.data] 24)).alloc (.cells #[.int .i64 0,.string ⟨#[]⟩,.slice none 0 0,.slice none 0 0,.int .i64 0,.int .i64 0,.int .i64 0,.int .i64 0,.int .i64 0,.int .i64 0,.string ⟨#[]⟩] 36) = w1 at *
 obtain ⟨r,hr⟩ : ∃ r,r = w.heap.size + 1:=⟨_,rfl⟩
 rw [← hr] at han ⊢
 have hrge : w.heap.size ≤ r:=by rw [hr]; omega
 have HR:=Lib.hid hr
 have HB1:=Lib.hid hbl
 have HOP:=Lib.hid hop
 have HAN:=Lib.hid han
 have HLV:=Lib.hid hLV
 have HLEN:=Lib.hid hR.1
 have hO:=st_open (w:=w1) (q:=q) l hRD (by omega) hz
 clear hr hbl hop han hLV hR hRD
 by_cases hex : ∃ fs,takeL fs0 none l = some fs ∧ RightFS fs
 case neg=>
  have HO : Hid (Calls Tryz.prog 28 #[.slice A n q] w1 fun e w'=>e = .returned (.tuple #[.pointer none,.bool false]) ∧ Below w1.heap.size w1 w'):=Lib.hid (hO.mono fun e w' h=>by
   obtain ⟨hb,⟨_,_,_,_,fs,_,h1,h2,_⟩ | ⟨h1,_⟩⟩:=h
   ·exact absurd ⟨fs,h1,h2⟩ hex
   ·exact ⟨h1,hb⟩)
  have HX:=Lib.hid hex
  clear hO hex
  go_wp2_with (
   go_at_call 28
   refine HO.out.mono ?_
   rintro e w2 ⟨rfl,hb2⟩
   have HA2:=Lib.hid (blk_below HAN.out hb2)
   have HEND:=Lib.hid (fun W7 h7=>do_end (W7:=W7) (o:=o) (v:=.slice none 0 0) (an:=ansC 150) (p:=ansP0 150) (l':=[]) HA2.out (bl_t HB1.out hb2) hrge (ansIn0 _ _ 150) (.inl ⟨HX.out,rfl,rfl⟩) (World.ownsRow_nil _ _ _ _) h7)
   obtain ⟨z0,z1,z2,z3,z4,z5,z6,z7,z8,z9,z10⟩:=ans_cells HA2.out
   obtain ⟨r0,r1,r2,r3,r4,r5,r6,r7,r8,r9,r10⟩:=ans_frozen HA2.out
   simp only [ans0,zeroND] at z0 z1 z2 z3 z4 z5 z6 z7 z8 z9 z10
   clear hb2)
  refine bodyPost_ret (v:=.tuple #[.slice none 0 0,Ans.val (ansC 150)]) ?_ rfl (HEND.out _ ans_keep)
  exact do_results rfl rfl (ans_set (a':=ansC 150) HA2.out)
 obtain ⟨fs,ht,hrt⟩:=hex
 obtain ⟨inst,hfn⟩ : ∃ F : Fence,F.lo = w1.heap.size:=⟨⟨w1.heap.size⟩,rfl⟩
 have HO : Hid (Calls Tryz.prog 28 #[.slice A n q] w1 fun e w'=>∃ f b m own,e = .returned (.tuple #[Pa f,.bool true]) ∧ FlsB l.length w' f b m own fs ∧ Below w1.heap.size w1 w'):=Lib.hid (hO.mono fun e w' h=>by
  obtain ⟨hb,⟨f,b,m,own,fs',h0,h1,h2,h3⟩ | ⟨_,h1⟩⟩:=h
  ·rw [ht] at h1
   cases h1
   exact ⟨f,b,m,own,h0,h3.toB (by rw [hfn]; exact Nat.le_refl _),hb⟩
  ·exact absurd ⟨fs,ht,hrt⟩ h1)
 have HT:=Lib.hid ht
 have HRT:=Lib.hid hrt
 have HOK : Hid (FsOk fs):=Lib.hid ((take_ok ht takeOk0).fsOk hrt)
 have HFN : Hid (w.heap.size ≤ Fence.lo):=Lib.hid (by rw [hfn]; exact HB1.out.size)
 clear hO ht hrt hfn
 go_upto_region 4 with (
  go_at_call 28
  refine HO.out.mono ?_
  rintro e w2 ⟨f,b,m,own,rfl,hF2,hb2⟩
  have HA2:=Lib.hid (blk_below HAN.out hb2)
  have HP2:=Lib.hid (blk_below HOP.out hb2)
  have HF2:=Lib.hid hF2
  have HB2:=Lib.hid (bl_t HB1.out hb2)
  have HLV2:=Lib.hid (HLV.out.below hb2)
  clear hb2 hF2)
 obtain ⟨o0,o1,o2,o3,o4,o5,o6⟩:=oc7 HP2.out
 have HM:=Lib.hid (fw_may o w2 HLV2.out hso)
 unfold OpA.val OpA.cs at HM
 by_cases hm : mayS o = 0
 case neg=>
  have hm' : (mayS o != 0) = true:=by simpa using hm
  have HQ:=Lib.hid hm
  clear hm
  go_wp2_with (
   go_at_call 29
   refine HM.out.mono ?_
   rintro e w3 ⟨rfl,hb3⟩
   have HA3:=Lib.hid (blk_below HA2.out hb3)
   have HEND:=Lib.hid (fun W7 h7=>do_end (W7:=W7) (o:=o) (v:=.slice none 0 0) (an:=ansC (mayS o)) (p:=ansP0 (mayS o)) (l':=[]) HA3.out (bl_t HB2.out hb3) hrge (ansIn0 _ _ (mayS o)) (.inr (.inl ⟨fs,HT.out,HRT.out,HQ.out,rfl,rfl⟩)) (World.ownsRow_nil _ _ _ _) h7)
   obtain ⟨z0,z1,z2,z3,z4,z5,z6,z7,z8,z9,z10⟩:=ans_cells HA3.out
   obtain ⟨r0,r1,r2,r3,r4,r5,r6,r7,r8,r9,r10⟩:=ans_frozen HA3.out
   simp only [ans0,zeroND] at z0 z1 z2 z3 z4 z5 z6 z7 z8 z9 z10
   clear hb3)
  refine bodyPost_ret (v:=.tuple #[.slice none 0 0,Ans.val (ansC (mayS o))]) ?_ rfl (HEND.out _ ans_keep)
  exact do_results rfl rfl (ans_set (a':=ansC (mayS o)) HA3.out)
 have hk : 1 ≤ o.kind ∧ o.kind ≤ 21:=by
  unfold mayS at hm
  by_cases hb : o.kind < 1 ∨ 21 < o.kind
  ·rw [if_pos hb] at hm; cases hm
  ·omega
 rw [hm] at HM
 have HM0:=Lib.hid hm
 clear hm
 go_upto_region 7 with (
  go_at_call 29
  refine HM.out.mono ?_
  rintro e w3 ⟨rfl,hb3⟩
  have HA3:=Lib.hid (blk_below HA2.out hb3)
  have HP3:=Lib.hid (blk_below HP2.out hb3)
  have HF3:=Lib.hid (HF2.out.below hb3)
  have HB3:=Lib.hid (bl_t HB2.out hb3)
  have HLV3:=Lib.hid (HLV2.out.below hb3)
  clear hb3)
 clear o0 o1 o2 o3 o4 o5 o6
 obtain ⟨o0,o1,o2,o3,o4,o5,o6⟩:=oc7 HP3.out
 have HWF : Hid (WfG fs):=Lib.hid HF3.out.wf
 have HD:=Lib.hid ((fw_does (w:=w3) HF3.out HOK.out HLV3.out o hso ho (by have:=HLEN.out; omega) hk).mono fun e w' h=>(show DoesEnds l.length w3 f b m fs o e w' ∧ KeepF w3 w' from ⟨h,by obtain ⟨_,_,_,_,_,_,_,_,h⟩:=h; exact h⟩))
 unfold wkV OpA.val OpA.cs at HD
 go_upto_region 8 with (
  go_at_call 30
  refine HD.out.mono ?_
  rintro e w4 ⟨⟨an,p,fs',own',he,hi4,hd4,hF4,hk4⟩,_⟩
  obtain ⟨acode,adata,anames,aranges,aino,and_⟩:=an
  obtain ⟨A5,q5,hn5⟩:=own_slice hi4.names
  obtain ⟨A6,q6,hn6⟩:=own_slice hi4.ranges
  simp only at hn5 hn6
  subst hn5
  subst hn6
  obtain rfl : e = .returned (.agg #[.int .i64 acode,.string adata,.slice A5 p.names.length q5,.slice A6 p.ranges.length q6,.int .i64 aino,.int .i64 and_.kind,.int .i64 and_.mode,.int .i64 and_.time,.int .i64 and_.links,.int .i64 and_.size,.string and_.target]):=he
  have hb5 : Below w4.heap.size w4 (w4.alloc (.cells #[.int .i64 acode,.string adata,.slice A5 p.names.length q5,.slice A6 p.ranges.length q6,.int .i64 aino,.int .i64 and_.kind,.int .i64 and_.mode,.int .i64 and_.time,.int .i64 and_.links,.int .i64 and_.size,.string and_.target] 36)):=(Below.refl _ _).alloc (Nat.le_refl _) _
  have HA5:=Lib.hid (blk_below (KeepF.blk hk4 HA3.out (by decide) (by decide)) hb5)
  have hW5:=Blk.new w4 36 (Ans.cs ⟨acode,adata,.slice A5 p.names.length q5,.slice A6 p.ranges.length q6,aino,and_⟩)
  have HI5:=Lib.hid ((hi4.base HB3.out.size).below hb5)
  have HF5:=Lib.hid (hF4.below hb5)
  have HK5:=Lib.hid (bl_t (HB3.out.trans (Keep.to_below hk4 (B:=w.heap.size) HB3.out.size (fun i hf=>Nat.le_trans HFN.out hf.1))) hb5)
  have HITM:=Lib.hid (DoesR.out HT.out HRT.out HWF.out HM0.out hd4)
  have HD4:=Lib.hid hd4
  obtain ⟨rw_,hrw⟩ : ∃ rw_,rw_ = w4.heap.size:=⟨_,rfl⟩
  have HRW:=Lib.hid hrw
  rw [← hrw] at hW5
  have HW5:=Lib.hid hW5
  have HCODE : Hid (acode = p.code):=Lib.hid hi4.code
  clear hi4 hd4 hF4 hk4 hb5 hW5 hrw)
 rw [← HRW.out]
 change Hid (Blk (w4.alloc (.cells #[.int .i64 acode,.string adata,.slice A5 p.names.length q5,.slice A6 p.ranges.length q6,.int .i64 aino,.int .i64 and_.kind,.int .i64 and_.mode,.int .i64 and_.time,.int .i64 and_.links,.int .i64 and_.size,.string and_.target] 36)) rw_ 36 (Ans.cs ⟨acode,adata,.slice A5 p.names.length q5,.slice A6 p.ranges.length q6,aino,and_⟩)) at HW5
 generalize w4.alloc (.cells #[.int .i64 acode,.string adata,.slice A5 p.names.length q5,.slice A6 p.ranges.length q6,.int .i64 aino,.int .i64 and_.kind,.int .i64 and_.mode,.int .i64 and_.time,.int .i64 and_.links,.int .i64 and_.size,.string and_.target] 36) = w5 at *
 clear o0 o1 o2 o3 o4 o5 o6
 have q0 : w5.cell? ⟨rw_,0,none⟩ = some (.int .i64 acode):=HW5.out.cell 0
 by_cases h0 : acode = 0
 case neg=>
  have h0' : (acode != 0) = true:=by simpa using h0
  have HQ : Hid (p.code ≠ 0):=Lib.hid (by rw [← HCODE.out]; exact h0)
  have HEND:=Lib.hid (fun W7 h7=>do_end (W7:=W7) (o:=o) (v:=.slice none 0 0) (an:=ansC acode) (p:=ansP0 p.code) (l':=[]) HA5.out HK5.out hrge (by rw [HCODE.out]; exact ansIn0 _ _ p.code) (.inr (.inr ⟨fs,HT.out,HRT.out,HM0.out,p,fs',HD4.out,HITM.out,.inl ⟨HQ.out,rfl,rfl⟩⟩)) (World.ownsRow_nil _ _ _ _) h7)
  obtain ⟨z0,z1,z2,z3,z4,z5,z6,z7,z8,z9,z10⟩:=ans_cells HA5.out
  obtain ⟨r0,r1,r2,r3,r4,r5,r6,r7,r8,r9,r10⟩:=ans_frozen HA5.out
  simp only [ans0,zeroND] at z0 z1 z2 z3 z4 z5 z6 z7 z8 z9 z10
  clear h0
  go_wp2
  go_region
  all_goals go_wp2
  refine bodyPost_ret (v:=.tuple #[.slice none 0 0,Ans.val (ansC acode)]) ?_ rfl (HEND.out _ ans_keep.drew)
  exact do_results rfl rfl (blk_drew (ans_set (a':=ansC acode) HA5.out))
 subst h0
 have hdr : Below w5.heap.size w5 w5.drew:=(Below.refl _ _).drew
 have HIT : Hid (Calls Tryz.prog 31 #[Pa f] w5.drew fun e w'=>Below w5.heap.size w5 w' ∧ ∃ (v : Value) (L : List (ByteArray × ByteArray)),e = .returned v ∧ ItemsOf fs' L ∧ w'.ownsRow w5.heap.size 59 2 v L.length (itCs L)):=Lib.hid ((st_items (w:=w5.drew) (HF5.out.below hdr) (HITM.out.itOk (by have:=HLEN.out; omega))).mono fun e w' h=>by
  obtain ⟨hb6,v,R,L,he,hR1,hR2,hR3,hR4,hR5⟩:=h
  exact ⟨hdr.trans hb6,v,L,he,⟨R,hR1,hR2,hR3,hR4⟩,hR5⟩)
 clear hdr
 have HC : Hid (p.code = 0):=Lib.hid HCODE.out.symm
 go_upto_region 10 with fail
 clear q0
 obtain ⟨x0,x1,x2,x3,x4,x5,x6,x7,x8,x9,x10⟩:=ans_cells HW5.out
 simp only at x0 x1 x2 x3 x4 x5 x6 x7 x8 x9 x10
 go_region_with (
  go_at_call 31
  refine HIT.out.mono ?_
  rintro e w6 ⟨hb6,v,L,rfl,hR1,hR5⟩
  have HA6:=Lib.hid (blk_below HA5.out hb6)
  have HW6:=Lib.hid (blk_below HW5.out hb6)
  have HEND:=Lib.hid (fun W7 h7=>do_end (W7:=W7) (o:=o) (v:=v) (an:=⟨0,adata,.slice A5 p.names.length q5,.slice A6 p.ranges.length q6,aino,and_⟩) (p:=p) (l':=L) HA6.out (bl_t HK5.out hb6) hrge (HI5.out.below hb6) (.inr (.inr ⟨fs,HT.out,HRT.out,HM0.out,p,fs',HD4.out,HITM.out,.inr ⟨HC.out,rfl,hR1⟩⟩)) (own_base hR5 (fun k hk=>Nat.le_trans HK5.out.size (hR5.lt k hk).1)) h7)
  obtain ⟨z0,z1,z2,z3,z4,z5,z6,z7,z8,z9,z10⟩:=ans_cells HA6.out
  obtain ⟨y0,y1,y2,y3,y4,y5,y6,y7,y8,y9,y10⟩:=ans_cells HW6.out
  obtain ⟨r0,r1,r2,r3,r4,r5,r6,r7,r8,r9,r10⟩:=ans_frozen HA6.out
  simp only [ans0,zeroND] at z0 z1 z2 z3 z4 z5 z6 z7 z8 z9 z10
  simp only at y0 y1 y2 y3 y4 y5 y6 y7 y8 y9 y10
  generalize p.names.length = n5 at *
  generalize p.ranges.length = n6 at *
  clear hb6 hR1 hR5)
 all_goals go_wp2
 ·refine bodyPost_ret (v:=.tuple #[v,Ans.val ⟨0,adata,.slice A5 n5 q5,.slice A6 n6 q6,aino,and_⟩]) ?_ rfl (HEND.out _ ans_keep)
  exact do_results rfl rfl (ans_set (a':=⟨0,adata,.slice A5 n5 q5,.slice A6 n6 q6,aino,and_⟩) HA6.out)
 ·refine bodyPost_ret (v:=.tuple #[v,Ans.val ⟨0,adata,.slice A5 n5 q5,.slice A6 n6 q6,aino,and_⟩]) ?_ rfl (HEND.out _ ans_keep)
  exact do_results rfl rfl (ans_set (a':=⟨0,adata,.slice A5 n5 q5,.slice A6 n6 q6,aino,and_⟩) HA6.out)
end Go.Proofs.YtpboohfofodeeaaGreatDoor
/- law16: lists of items that are the call's own (conditions: none). -/
namespace Go.Proofs.YtpboohfofodeeaaGreatDoor
open Go.RowKit Go.Maps
theorem itCs_len (l : List (ByteArray × ByteArray)) : (itCs l).length = l.length * 2:=by
 induction l with
 | nil=>rfl
 | cons x t ih=>simp [itCs,itC] at ih ⊢; omega
theorem itC_one {l : List (ByteArray × ByteArray)} : ∀ u ∈ itCs l,u.oneCell' = true:=fun u hu=>by
 unfold itCs at hu
 obtain ⟨x,_,hx⟩:=List.mem_flatMap.1 hu
 simp [itC] at hx
 rcases hx with rfl | rfl <;> rfl
theorem RdI.reads {w : World} {A : Option Addr} {n : Nat} {ps : List (ByteArray × ByteArray)} (h : RdI w A n ps) : Reads w w.heap.size 2 A n (itCs ps):=by
 refine ⟨by rw [itCs_len,h.1],fun hn=>?_⟩
 obtain ⟨g,o,rfl,hc⟩:=h.2 hn
 have hl : 0 < ps.length:=by have:=h.1; omega
 have h0:=(hc 0 _ (List.getElem?_eq_getElem hl)).1
 refine ⟨_,rfl,World.block_lt_of_cell? w _ h0,fun j u hu=>?_⟩
 have e : (⟨g,o,none⟩ : Addr).add j = ⟨g,o + j,none⟩:=by unfold Addr.add; split <;> simp_all
 rw [e]
 have hu' : (ps.flatMap itC)[0 + j]? = some u:=by rw [Nat.zero_add]; exact hu
 have hj : j < ps.length * 2:=by rw [← itCs_len]; exact (List.getElem?_eq_some_iff.1 hu).1
 have hx:=List.getElem?_eq_getElem (l:=ps) (i:=j / 2) (by omega)
 have hf:=flat_at itC (fun _=>rfl) ps
 have hq:=hu'
 rw [show 0 + j = 0 + (j / 2) * 2 + j % 2 by omega] at hq
 obtain ⟨c0,c1⟩:=hc (j / 2) _ hx
 rcases Nat.mod_two_eq_zero_or_one j with h2 | h2
 ·rw [hf,show (0 + j / 2 * 2 + j % 2) / 2 = j / 2 by omega,show (0 + j / 2 * 2 + j % 2) % 2 = 0 by omega,hx] at hq
  have : u = .string ps[j / 2].1:=by simpa [itC] using hq.symm
  rw [this,show o + j = o + j / 2 * 2 by omega]
  exact c0
 ·rw [hf,show (0 + j / 2 * 2 + j % 2) / 2 = j / 2 by omega,show (0 + j / 2 * 2 + j % 2) % 2 = 1 by omega,hx] at hq
  have : u = .string ps[j / 2].2:=by simpa [itC] using hq.symm
  rw [this,show o + j = o + j / 2 * 2 + 1 by omega]
  exact c1
theorem it_row {w : World} {base n q : Nat} {A : Option Addr} {ps : List (ByteArray × ByteArray)} (h : w.ownsRow base 59 2 (.slice A n q) n (itCs ps)) (hn : n = ps.length) : RdI w A n ps:=by
 refine ⟨hn.symm,fun h0=>?_⟩
 rcases h.2 with ⟨_,h1⟩ | ⟨g,cap,cur,hv,_,hb,h1,_,h3,h4⟩
 ·omega
 ·cases hv
  have hf:=flat_at itC (fun _=>rfl) ps
  refine ⟨g,0,rfl,fun j x hx=>?_⟩
  have hj : j < ps.length:=(List.getElem?_eq_some_iff.1 hx).1
  have e0 : ∀ t,t < n * 2 → cur[t]? = (itCs ps)[t]?:=fun t ht=>by
   have e1 : (cur.toList.take (n * 2))[t]? = (itCs ps)[t]?:=by rw [h4]
   rw [List.getElem?_take_of_lt ht,Array.getElem?_toList] at e1
   exact e1
  constructor
  ·simp only [World.cell?,hb]
   rw [e0 _ (by omega)]
   show (ps.flatMap itC)[0 + j * 2]? = _
   rw [hf,show (0 + j * 2) / 2 = j by omega,show (0 + j * 2) % 2 = 0 by omega,hx]
   rfl
  ·simp only [World.cell?,hb]
   rw [e0 _ (by omega)]
   show (ps.flatMap itC)[0 + j * 2 + 1]? = _
   rw [hf,show (0 + j * 2 + 1) / 2 = j by omega,show (0 + j * 2 + 1) % 2 = 1 by omega,hx]
   rfl
/-- A list of items that is the call's own. -/
def OwnEnds (w : World) (l : List (ByteArray × ByteArray)) (e : Ending) (w' : World) : Prop:=∃ v,e = .returned v ∧ w'.ownsRow w.heap.size 59 2 v l.length (itCs l) ∧ Below w.heap.size w w'
set_option maxRecDepth 100000 in
set_option maxHeartbeats 4000000 in
theorem lw_own {w : World} {A : Option Addr} {n c : Nat} {l : List (ByteArray × ByteArray)} (hR : RdI w A n l) (hn : n ≤ 1099511627776) :
 Calls Tryz.prog 15 #[.slice A n c] w (OwnEnds w l):=by
 obtain ⟨i0,hi,hz0,hz1,hz2⟩:=info_parts info_item
 have HR:=Lib.hid hR.reads
 have hlen:=hR.1
 clear hR
 have hb0 : Below w.heap.size w (w.alloc (.cells #[] 59)):=(Below.refl _ _).alloc (Nat.le_refl _) _
 have hO0 : Hid ((w.alloc (.cells #[] 59)).ownsRow w.heap.size 59 2 (.slice (some ⟨w.heap.size,0,none⟩) 0 0) 0 []):=Lib.hid ⟨rfl,.inr ⟨w.heap.size,0,#[],rfl,Nat.le_refl _,heap_alloc_new w _,Nat.le_refl _,by unfold maxLen; omega,rfl,rfl⟩⟩
 have HR1 : Hid (Reads (w.alloc (.cells #[] 59)) w.heap.size 2 A n (itCs l)):=Lib.hid (HR.out.alloc (Nat.le_refl _) _)
 have HB0:=Lib.hid hb0
 clear hb0
 go_enter Tryz.func15,Tryz.ntmps15
 go_wp2_with (
  at_builtin
  refine wpList_append_any _ rfl _ _ _ rfl w.heap.size 59 i0 (.agg #[.string ⟨#[]⟩,.string ⟨#[]⟩]) 2 32 Tryz.underlying28 hi hz0 hz1 hz2 rfl (by decide) (.slice (some ⟨w.heap.size,0,none⟩) 0 0) 0 [] rfl
   hO0.out w.heap.size A n c (itCs l) rfl HR1.out itC_one (by unfold maxLen; omega) (by omega) (by simp) ?_
  intro v7 w7 hown7 hg7 hat7
  have HO7:=Lib.hid hown7
  have HB7:=Lib.hid (HB0.out.grown hg7 (by simp) (fun k hk=>(hO0.out.lt k hk).1))
  clear hown7 hg7 hat7)
 go_ret
 refine ⟨_,rfl,?_,HB7.out⟩
 have h:=HO7.out
 rw [Nat.zero_add,← hlen,List.nil_append] at h
 exact h
end Go.Proofs.YtpboohfofodeeaaGreatDoor
/- law16: operations as they are handed in; long (conditions: none). -/
namespace Go.Proofs.YtpboohfofodeeaaGreatDoor
open Go.RowKit Go.Maps
def i64R (x : Int) : Prop:=-9223372036854775808 ≤ x ∧ x ≤ 9223372036854775807
/-- An operation in memory. -/
structure IsOp (w : World) (q : Addr) (o : OpA) : Prop where
 c0 : w.cell? q = some (.int .i64 o.kind)
 c1 : w.cell? ⟨q.block,q.off + 1,none⟩ = some (.string o.path)
 c2 : w.cell? ⟨q.block,q.off + 2,none⟩ = some (.string o.dest)
 c3 : w.cell? ⟨q.block,q.off + 3,none⟩ = some (.string o.name)
 c4 : w.cell? ⟨q.block,q.off + 4,none⟩ = some (.int .i64 o.off)
 c5 : w.cell? ⟨q.block,q.off + 5,none⟩ = some (.int .i64 o.n)
 c6 : w.cell? ⟨q.block,q.off + 6,none⟩ = some (.string o.data)
 ints : OpInts o
theorem IsOp.below {w w1 : World} {q : Addr} {o : OpA} (h : IsOp w q o) (hb : Below w.heap.size w w1) : IsOp w1 q o:=
 ⟨keepc' hb h.c0,keepc' hb h.c1,keepc' hb h.c2,keepc' hb h.c3,keepc' hb h.c4,keepc' hb h.c5,keepc' hb h.c6,h.ints⟩
/-- A slice that reads as a list of operations. -/
def RdO (w : World) (A : Option Addr) (n : Nat) (l : List OpA) : Prop:=
 l.length = n ∧ n ≤ 9223372036854775807 ∧ (0 < n → ∃ ad,A = some ad ∧ ∀ i,i < n → IsOp w (ad.add (i * 7)) (l.getD i default))
theorem RdO.below {w w1 : World} {A : Option Addr} {n : Nat} {l : List OpA} (h : RdO w A n l) (hb : Below w.heap.size w w1) : RdO w1 A n l:=
 ⟨h.1,h.2.1,fun hn=>by
  obtain ⟨ad,e,hc⟩:=h.2.2 hn
  exact ⟨ad,e,fun i hi=>(hc i hi).below hb⟩⟩
theorem op_ext {k n f : Int} {p d a t : ByteArray} : (⟨k,p,d,a,f,n,t⟩ : OpA).val = .agg #[.int .i64 k,.string p,.string d,.string a,.int .i64 f,.int .i64 n,.string t]:=rfl
/-- Is there no answer for so many, or so great? -/
def LongEnds (w : World) (l : List OpA) (most : Int) (e : Ending) (w' : World) : Prop:=
 Below w.heap.size w w' ∧ (e = .returned (.bool true) ∨ (e = .returned (.bool false) ∧ (l.length : Int) ≤ most ∧ ∀ o ∈ l,greatB o = false))
set_option maxRecDepth 100000 in
set_option maxHeartbeats 4000000 in
theorem lw_long {w : World} {A : Option Addr} {n c : Nat} {l : List OpA} (h : RdO w A n l) (most : Int) : Calls Tryz.prog 11 #[.slice A n c,.int .i64 most] w (LongEnds w l most):=by
 have HL:=Lib.hid h.1
 have hn63:=h.2.1
 have H:=Lib.hid h
 clear h
 by_cases hm : most < (n : Int)
 ·go_enter Tryz.func11,Tryz.ntmps11
  go_wp2
  go_ret
  exact ⟨Below.refl _ _,.inl rfl⟩
 ·go_enter Tryz.func11,Tryz.ntmps11
  go_wp2
  go_loopw [5] (fun i wr=>∃ k : Nat,k ≤ n ∧ i = .int .i64 k ∧ Below w.heap.size w wr ∧ ∀ j,j < k → greatB (l.getD j default) = false) (fun i _=>n - (intOf i).toNat)
  case atStart=>exact ⟨0,Nat.zero_le _,rfl,Below.refl _ _,fun j hj=>by omega⟩
  case round=>
   obtain ⟨k,hk,rfl,hb,hp⟩:=hrel
   have HP:=Lib.hid hp
   have HB:=Lib.hid hb
   clear hp hb
   by_cases hlt : k < n
   ·obtain ⟨ad,rfl,hcs⟩:=(H.out.below HB.out).2.2 (by omega)
    obtain ⟨c0,c1,c2,c3,c4,c5,c6,_⟩:=hcs k hlt
    clear hcs
    have HG : Hid (∀ W,Calls Tryz.prog 12 #[(l.getD k default).val] W (GreatEnds W (l.getD k default))):=Lib.hid fun W=>lw_great _ W
    obtain ⟨go,hgo⟩ : ∃ go,go = l.getD k default:=⟨_,rfl⟩
    rw [← hgo] at c0 c1 c2 c3 c4 c5 c6 HG
    have HGO:=Lib.hid hgo
    clear hgo
    obtain ⟨kind,path,dest,name,off,nn,data⟩:=go
    simp only at c0 c1 c2 c3 c4 c5 c6
    rw [op_ext] at HG
    cases hg : greatB ⟨kind,path,dest,name,off,nn,data⟩ with
    | true=>
     have HGT:=Lib.hid hg
     clear hg
     go_wp2_with (
      go_at_call 12
      refine (HG.out _).mono ?_
      unfold GreatEnds
      rw [HGT.out]
      rintro e w2 ⟨rfl,hb2⟩
      have HB2:=Lib.hid (bl_t HB.out hb2)
      clear hb2)
     go_ret
     exact ⟨HB2.out,.inl rfl⟩
    | false=>
     have HGT:=Lib.hid hg
     clear hg
     go_wp2_with (
      go_at_call 12
      refine (HG.out _).mono ?_
      unfold GreatEnds
      rw [HGT.out]
      rintro e w2 ⟨rfl,hb2⟩
      have HB2:=Lib.hid (bl_t HB.out hb2)
      clear hb2)
     go_round
     case rel=>exact ⟨k + 1,by omega,by go_num,HB2.out,fun j hj=>by
      by_cases e : j = k
      ·rw [e,← HGO.out]; exact HGT.out
      ·exact HP.out j (by omega)⟩
     case measure=>simp [intOf]; omega
   ·have HE : Hid (LongEnds w l most (.returned (.bool false)) wr):=Lib.hid ⟨HB.out,.inr ⟨rfl,by rw [HL.out]; omega,fun o ho=>by
     obtain ⟨j,hj,rfl⟩:=List.mem_iff_getElem.1 ho
     have:=HP.out j (by have:=HL.out; omega)
     rw [List.getD_eq_getElem?_getD,List.getElem?_eq_getElem hj] at this
     simpa using this⟩⟩
    go_wp2
    go_ret
    exact HE.out
end Go.Proofs.YtpboohfofodeeaaGreatDoor
