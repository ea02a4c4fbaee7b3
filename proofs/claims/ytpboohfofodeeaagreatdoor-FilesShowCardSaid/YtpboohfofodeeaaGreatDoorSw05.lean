/- law16: FilesShow (conditions: none). -/
import Derived.Test.YtpboohfofodeeaaGreatDoorSw03
import Derived.Test.YtpboohfofodeeaaGreatDoorSw04
import Derived.Test.YtpboohfofodeeaaGreatDoorM41
import Derived.Test.YtpboohfofodeeaaGreatDoorRows
import Derived.Test.YtpboohfofodeeaaGreatDoorTie
import Derived.Test.YtpboohfofodeeaaGreatDoorCards
import Derived.WalkKit
import Derived.ProofKit
import Derived.OpenShut
import Derived.ShutString
import Derived.ChangeOld
import Derived.Below
import Derived.SizedLaws
import Derived.ChangeMaps5
import Derived.LaidMore
import Derived.Lay
import Derived.SevenTiedAt
import Derived.Stop.Joined
namespace Go.Proofs.YtpboohfofodeeaaGreatDoor
open Go.RowKit Go.Maps
theorem sliced_own (g o n q : Nat) : (sliced (some ⟨g,o,none⟩) 1 n q 1).ownBlock = some g:=by
 unfold sliced
 split
 ·rfl
 ·show some ((⟨g,o,none⟩ : Addr).add (1 * 1)).block = some g
  rw [block_of_add]
theorem less_lt : ∀ x y : List UInt8,Op.bytesLess x y = decide (x < y)
 | [],[]=>by simp [Op.bytesLess]
 | _ :: _,[]=>by simp [Op.bytesLess]
 | [],_ :: _=>by simp [Op.bytesLess]
 | a :: x,b :: y=>by
  rw [Op.bytesLess,less_lt x y]
  simp only [List.cons_lt_cons_iff]
  by_cases h1 : a < b <;> by_cases h2 : a = b <;> by_cases h3 : x < y <;> simp [h1,h2,h3]
theorem let_no {u v : ByteArray} (h : Op.bytesLess v.toList u.toList = false) : LeT u v:=by
 rw [toList_eq,toList_eq,less_lt] at h
 exact List.not_lt.1 (by simpa using h)
theorem let_yes {u v : ByteArray} (h : Op.bytesLess v.toList u.toList = true) : LeT v u:=by
 rw [toList_eq,toList_eq,less_lt] at h
 exact List.le_of_lt (by simpa using h)
theorem strV_set (l : List ByteArray) (k : Nat) (v : ByteArray) : (strV l).set k (.string v) = strV (l.set k v):=by unfold strV; rw [List.map_set]
theorem own_at {w : World} {base g n c : Nat} {l : List ByteArray} {k : Nat} {v : ByteArray} (h : w.ownsRow base 9 1 (.slice (some ⟨g,0,none⟩) n c) n (strV l)) (hv : l[k]? = some v) : w.cell? ⟨g,k,none⟩ = some (.string v):=by
 have:=h.cells (g:=g) rfl k (.string v) (by unfold strV; rw [List.getElem?_map,hv]; rfl)
 simpa [Addr.add_lit] using this
theorem own_fz {w : World} {base g n c : Nat} {e : TypeId} {xs : List Value} (h : w.ownsRow base e 1 (.slice (some ⟨g,0,none⟩) n c) n xs) (k : Nat) : w.frozen? ⟨g,k,none⟩ = false:=by
 rcases h.2 with ⟨h0,_⟩ | ⟨g',cap,cur,hv,_,hb,_⟩
 ·cases h0
 ·cases hv
  simp [World.frozen?,hb]
theorem below_drew (w : World) (n : Nat) : Below w.heap.size w (w.drewN n):=⟨rfl,rfl,rfl,Nat.le_refl _,fun _ _=>rfl⟩
theorem sp_size {fs : FS} (hR : RightFS fs) {H : Int → List SlotK} (hH : SlotsP fs.G H) {x : Spot} (hx : spLive fs x) : (spText H x).size ≤ 1023:=by
 cases x with
 | none=>show slash.size ≤ 1023; decide
 | some s=>
  obtain ⟨i,hi⟩:=Option.isSome_iff_exists.1 hx
  obtain ⟨ns,_,_,_,h⟩:=path_names hR hH hi
  exact h
theorem oAt_small {k : Int} {p : ByteArray} (h : p.size ≤ 1023) : OpSmall (oAt k p):=⟨by show p.size ≤ _; omega,by show tE.size ≤ _; decide,by show tE.size ≤ _; decide,by show tE.size ≤ _; decide⟩
theorem oAt_ints (k : Int) (p : ByteArray) : OpInts (oAt k p):=⟨(by decide : -9223372036854775808 ≤ (0 : Int) ∧ (0 : Int) ≤ 9223372036854775807),(by decide : -9223372036854775808 ≤ (0 : Int) ∧ (0 : Int) ≤ 9223372036854775807)⟩
theorem sz_st (W : World) : (Go.sizeOf (Tryz.prog.elem 31)).run Tryz.prog W = .ok 1 W:=by kernel_rfl
set_option maxRecDepth 100000 in
set_option maxHeartbeats 32000000 in
theorem law_show {w : World} {A : Option Addr} {n c : Nat} {ops : List OpA} (hl : LibV w) (h : RdO w A n ops) : Calls Tryz.prog 9 #[.slice A n c] w fun e w'=>e = .returned (.bool true) ∧ Below w.heap.size w w':=by
 have HLV:=Lib.hid hl
 have HRO:=Lib.hid h
 have HLEN:=Lib.hid h.1
 clear hl h
 have HLG : Hid (∀ W,RdO W A n ops → Calls Tryz.prog 11 #[.slice A n c,.int .i64 60] W (LongEnds W ops 60)):=Lib.hid fun W h=>lw_long (c:=c) h 60
 obtain ⟨i0,hi,hz0,hz1,hz2⟩:=info_parts info_text
 go_enter Tryz.func9,Tryz.ntmps9
 go_upto_region 5 with (first
  |(go_at_call 10
    refine (lw_awake HLV.out).mono ?_
    rintro e w1 ⟨rfl,hb1⟩
    have HB1:=Lib.hid hb1
    clear hb1)
  |(go_at_call 11
    refine (HLG.out _ (HRO.out.below HB1.out)).mono ?_
    rintro e w2 ⟨hb2,rfl | ⟨rfl,hfew,hgr⟩⟩
    all_goals have HB2:=Lib.hid (bl_t HB1.out hb2)
    all_goals clear hb2))
 ·go_wp2
  go_ret
  exact ⟨rfl,HB2.out⟩
 have HGR:=Lib.hid hgr
 have hn60 : n ≤ 60:=by have:=HLEN.out; omega
 have HRW:=Lib.hid (HRO.out.below HB2.out)
 have HLW:=Lib.hid (HLV.out.below HB2.out)
 clear hgr hfew HLV HRO HB1
 go_upto_region 7 with (
  go_at_call 13
  refine (lw_madeF HLW.out HRW.out hn60 HGR.out).mono ?_
  rintro e u1 hM
  obtain ⟨B1,t1,L0,fs,rfl,hM⟩:=hM
  have HM:=Lib.hid hM.mid
  have HGD:=Lib.hid hM.rch.good
  have HFW : Hid (Few fs n):=Lib.hid hM.rch.few
  have HLS:=Lib.hid hM.ls
  have HBU1:=Lib.hid (bl_t HB2.out hM.ls.bl)
  have HLV1:=Lib.hid (HLW.out.below hM.ls.bl)
  clear hM)
 obtain ⟨H,hH,_⟩:=HGD.out.right.linked
 have HH:=Lib.hid hH
 clear hH
 have hq0 : QRow (u1.alloc (.cells #[.string ⟨#[47]⟩] 9)) u1.heap.size 9 (.slice (some ⟨u1.heap.size,0,none⟩) 1 1) (strV [slash]):=QRow.of_own (own_one u1 slash) (by omega)
 have HQ0:=Lib.hid (hq0.alloc (.cells #[] 9))
 have ho0 : ((u1.alloc (.cells #[.string ⟨#[47]⟩] 9)).alloc (.cells #[] 9)).ownsRow u1.heap.size 9 1 (.slice (some ⟨u1.heap.size + 1,0,none⟩) 0 0) 0 []:=
  ⟨rfl,.inr ⟨u1.heap.size + 1,0,#[],rfl,by omega,by
   have:=heap_alloc_new (u1.alloc (.cells #[.string ⟨#[47]⟩] 9)) (.cells #[] 9)
   simpa using this,Nat.le_refl _,Nat.zero_le _,rfl,rfl⟩⟩
 have HO0:=Lib.hid ho0
 have hbb : Below u1.heap.size u1 ((u1.alloc (.cells #[.string ⟨#[47]⟩] 9)).alloc (.cells #[] 9)):=((Below.refl _ _).alloc (Nat.le_refl _) _).alloc (by simp) _
 have HBB:=Lib.hid hbb
 clear hq0 ho0 hbb
 generalize (u1.alloc (.cells #[.string ⟨#[47]⟩] 9)).alloc (.cells #[] 9) = W0 at *
 go_loopw [4,5,6,7,8,9,10,11] (fun v4 v5 _ _ _ _ _ _ wr=>∃ ss ws : List Spot,Hid (BfsI fs ss ws) ∧ Hid (QRow wr u1.heap.size 9 v4 (strV (ws.map (spText H)))) ∧ Hid (wr.ownsRow u1.heap.size 9 1 v5 ss.length (strV (ss.map (spText H)))) ∧ Hid (v4.ownBlock ≠ v5.ownBlock) ∧ Hid (Below u1.heap.size u1 wr)) (fun _ v5 _ _ _ _ _ _ _=>200 - (match v5 with | .slice _ k _=>k | _=>0))
 case atStart=>exact ⟨[],[none],Lib.hid (BfsI.start fs),HQ0,HO0,Lib.hid (by simp [Value.ownBlock]),HBB⟩
 case round=>
  obtain ⟨ss,ws,HI,HQ,HO,HNE,HB⟩:=hrel
  obtain ⟨A4,q4,rfl⟩:=HQ.out.slice
  obtain ⟨A5,q5,rfl⟩:=own_slice HO.out
  have hfew:=HI.out.few HFW.out
  have hl4 : (strV (ws.map (spText H))).length = ws.length:=by simp [strV]
  rw [hl4] at *
  rcases ws with _ | ⟨x,ws⟩
  ·have hn0 : ss.length ≠ 0:=fun e=>by
    have h:=HI.out.root
    rw [List.length_eq_zero_iff.1 e] at h
    simp at h
   obtain ⟨g,c5,hv5,hg1,hg2⟩:=own_block HO.out hn0
   cases hv5
   obtain ⟨ts,hts⟩ : ∃ ts,ts = ss.map (spText H):=⟨_,rfl⟩
   have hO:=HO.out
   rw [← hts] at hO
   have HOT:=Lib.hid hO
   have HTS:=Lib.hid hts
   have hn61 : ss.length ≤ 61:=by simp at hfew; omega
   clear hO hts HO HQ HNE hl4 hfew
   generalize hn : ss.length = n at HOT hn0 hn61 ⊢
   have HSN:=Lib.hid hn
   clear hn
   generalize wr = v0 at *
   go_upto_region 23 with fail
   go_loopw [12,13,14] (fun v12 _ _ wx=>∃ (i : Nat) (m : List ByteArray),v12 = .int .i64 i ∧ i ≤ n ∧ Hid (m.Perm ts) ∧ Hid (SortTo m i) ∧ Hid (wx.ownsRow u1.heap.size 9 1 (.slice (some ⟨g,0,none⟩) n q5) n (strV m)) ∧ Keep (fun b=>b = g) v0 wx) (fun v12 _ _ _=>n - (intOf v12).toNat)
   case atStart=>exact ⟨0,ts,rfl,Nat.zero_le _,Lib.hid (List.Perm.refl _),Lib.hid (fun a b x y h1 h2=>by omega),HOT,Keep.refl _ _⟩
   case round=>
    obtain ⟨i,m,rfl,hin,HP,HST,HOM,hk⟩:=hrel
    have HK:=Lib.hid hk
    clear hk
    by_cases hlt : i < n
    ·go_upto_region 26 with fail
     go_loopw [13,14] (fun v13 _ wy=>∃ (k : Nat) (m : List ByteArray),v13 = .int .i64 k ∧ k ≤ i ∧ Hid (m.Perm ts) ∧ Hid (InsI m i k) ∧ Hid (wy.ownsRow u1.heap.size 9 1 (.slice (some ⟨g,0,none⟩) n q5) n (strV m)) ∧ Keep (fun b=>b = g) v0 wy) (fun v13 _ _=>(intOf v13).toNat)
     case atStart=>exact ⟨i,m,rfl,Nat.le_refl _,HP,Lib.hid (ins_start HST.out),HOM,HK.out⟩
     case round=>
      obtain ⟨k,m,rfl,hki,HP,HIN,HOM,hk⟩:=hrel
      have HK:=Lib.hid hk
      clear hk
      have hml : m.length = n:=by have:=HOM.out.1; simpa [strV] using this
      have hkz : (k : Int) ≤ 61:=by omega
      rcases k with _ | j
      ·go_wp2_with fail
       go_quiet (fail)
       go_wp2_with fail
       go_roundw
       case rel=>exact ⟨i + 1,m,by go_num,by omega,HP,Lib.hid (ins_zero HIN.out),Lib.hid (own_keep HOM.out (Keep.of_below (below_drew _ _) (fun _=>False)) (fun _ _ h=>h)),HK.out.below (below_drew _ _)⟩
       case measure=>simp [intOf]; omega
      ·have hu : m[j]? = some m[j]:=List.getElem?_eq_getElem (by omega)
       have hv : m[j + 1]? = some m[j + 1]:=List.getElem?_eq_getElem (by omega)
       generalize m[j] = u at *
       generalize m[j + 1] = v at *
       have cu:=own_at HOM.out hu
       have cv:=own_at HOM.out hv
       have HU:=Lib.hid hu
       have HVV:=Lib.hid hv
       have q1 : wrap64 (((j + 1 : Nat) : Int) - 1) = j:=by unfold wrap64; omega
       clear hu hv hml
       have fz0:=own_fz HOM.out j
       have fz1:=own_fz HOM.out (j + 1)
       cases hls : Op.bytesLess u.toList v.toList
       ·cases hue : u.toList == v.toList
        ·have HLS:=Lib.hid (let_no hls)
         go_wp2_with fail
         go_quiet (fail)
         go_wp2_with fail
         go_roundw
         case rel=>exact ⟨j,(m.set (j + 1) u).set j v,by go_num,by omega,Lib.hid ((swap_perm (Nat.succ_pos j) HU.out HVV.out).trans HP.out),Lib.hid (ins_swap HIN.out (Nat.succ_pos j) hki HU.out HVV.out HLS.out),Lib.hid (by
          have h1:=own_keep HOM.out (Keep.of_below (below_drew wr nq) (fun _=>False)) (fun _ _ h=>h)
          have h2:=own_set (own_set h1 (i:=j + 1) (by omega) (.string u)) (i:=j) (by omega) (.string v)
          rw [strV_set,strV_set] at h2
          exact h2),((HK.out.below (below_drew _ _)).setCell (p:=⟨g,j + 1,none⟩) (.inl rfl) _).setCell (p:=⟨g,j,none⟩) (.inl rfl) _⟩
         case measure=>simp [intOf]
        ·have HLS : Hid (LeT u v):=Lib.hid (by
          have e : u = v:=baD_ext (by rw [toList_eq,toList_eq] at hue; simpa using hue)
          rw [e]
          exact List.le_refl _)
         go_wp2_with fail
         go_quiet (fail)
         go_wp2_with fail
         go_roundw
         case rel=>exact ⟨i + 1,m,by go_num,by omega,HP,Lib.hid (ins_done HIN.out (Nat.succ_pos j) HU.out HVV.out HLS.out),Lib.hid (own_keep HOM.out (Keep.of_below (below_drew _ _) (fun _=>False)) (fun _ _ h=>h)),HK.out.below (below_drew _ _)⟩
         case measure=>simp [intOf]; omega
       ·have HLS:=Lib.hid (let_yes hls)
        go_wp2_with fail
        go_quiet (fail)
        go_wp2_with fail
        go_roundw
        case rel=>exact ⟨i + 1,m,by go_num,by omega,HP,Lib.hid (ins_done HIN.out (Nat.succ_pos j) HU.out HVV.out HLS.out),Lib.hid (own_keep HOM.out (Keep.of_below (below_drew _ _) (fun _=>False)) (fun _ _ h=>h)),HK.out.below (below_drew _ _)⟩
        case measure=>simp [intOf]; omega
    ·obtain rfl : i = n:=by omega
     have hml : m.length = i:=by have:=HOM.out.1; simpa [strV] using this
     have HSO:=Lib.hid (sort_all (by rw [hml]; exact HST.out))
     have HBX:=Lib.hid (HB.out.trans (HK.out.to_below (B:=u1.heap.size) HB.out.size (fun i h=>by rw [h]; exact hg1)))
     have HRX:=Lib.hid (HLS.out.rd.below (Nat.le_refl _) HBX.out)
     have HFI:=Lib.hid (items_few HLS.out.itm HLS.out.it)
     have hl0 : L0.length ≤ 137438953000:=by have:=HFI.out.1; have:=HLS.out.few; omega
     go_wp2_with (first
      |(go_at_call 15
        refine (lw_own2 HRX.out HLS.out.few_).mono ?_
        rintro e u2 ⟨B2,t2,rfl,hr,hb⟩
        have HU2:=Lib.hid hr
        have HBU2:=Lib.hid hb
        clear hr hb)
      |(go_at_call 27
        refine (au_paths (q:=t2) L0 HU2.out hl0 (fun x hx=>by obtain ⟨a,b⟩:=HFI.out.2 x hx; exact ⟨by omega,by omega⟩) (take_items HGD.out.canon HLS.out.it) HGD.out.right).mono ?_
        rintro e u3 ⟨⟨H',A3,q3,l3,hH3,hn3,hl3,rfl,ho3⟩,hb3⟩
        have HE3:=Lib.hid (shw_end HGD.out HH.out HI.out (by rw [← HTS.out]; exact HP.out) HSO.out hn3 hl3)
        have HR3:=Lib.hid ((Reads.of_own HOM.out).rdv.below (bl_t HBU2.out hb3))
        have HB3:=Lib.hid (bl_t HBU2.out hb3)
        have HO3 : Hid (RdV u3 A3 (l3.length + 1) (strV m)):=Lib.hid (by
         rw [slots_unique hH3 HH.out] at ho3
         rw [HE3.out]
         exact (Reads.of_own ho3).rdv)
        clear hH3 hn3 hl3 ho3 hb3)
      |(go_at_call 26
        refine (ref_sameT HR3.out HO3.out (by omega)).mono ?_
        rintro e u4 ⟨⟨_,rfl⟩ | ⟨hne,_⟩,hb4⟩
        case inr=>exact absurd rfl hne
        have HB4:=Lib.hid hb4
        clear hb4))
     go_ret
     exact ⟨rfl,bl_t HBU1.out (bl_t HBX.out (bl_t HB3.out HB4.out))⟩
  ·have hlt : ss.length < 200:=by simp at hfew; omega
   have hq1:=HQ.out
   rw [List.map_cons,show strV (spText H x :: ws.map (spText H)) = Value.string (spText H x) :: strV (ws.map (spText H)) from rfl] at hq1
   obtain ⟨g4,o4,rfl,_,hqc,c4,hq2⟩:=hq1.first
   rw [show (Value.string (spText H x) :: strV (ws.map (spText H))).length = ws.length + 1 by simp [strV]] at hqc hq2
   have hsl : ∀ W,(Instr.sliceAt 31 (.slice (some ⟨g4,o4,none⟩) (ws.length + 1) q4) (some (.int .i64 1)) none none).run Tryz.prog W = .ok (sliced (some ⟨g4,o4,none⟩) 1 (ws.length + 1) q4 1) W:=fun W=>by
    rw [run_sliceAt_slice (P:=Tryz.prog) W 31 _ _ _ _ (by kernel_rfl),run_slice_l (P:=Tryz.prog) W 31 (some ⟨g4,o4,none⟩) (ws.length + 1) q4 (by kernel_rfl) .i64 1 (by omega) (by omega)]
    rw [sz_st]
    rfl
   have hv4:=sliced_own g4 o4 (ws.length + 1) q4
   generalize sliced (some ⟨g4,o4,none⟩) 1 (ws.length + 1) q4 1 = v4 at *
   have HQ2:=Lib.hid hq2
   have HCL:=Lib.hid hqc
   clear hq1 hq2 hqc
   have HV4:=Lib.hid hv4
   have hg4 : g4 < wr.heap.size:=(HQ2.out.lt g4 HV4.out).2
   have hne4 : (Value.slice A5 ss.length q5).ownBlock ≠ some g4:=fun e=>HNE.out (by rw [e]; rfl)
   have HN4:=Lib.hid hne4
   clear hv4 hne4
   go_upto_region 10 with fail
   have hRD : Hid (Reads (wr.alloc (.cells #[.string (spText H x)] 9)) (wr.heap.size + 1) 1 (some ⟨wr.heap.size,0,none⟩) 1 [.string (spText H x)]):=Lib.hid (reads_one wr (.string (spText H x)) 9)
   have hsz : u1.heap.size ≤ wr.heap.size:=HB.out.size
   go_upto_region 11 with (
    at_builtin
    refine wpList_append_any _ rfl _ _ _ rfl u1.heap.size 9 i0 (.string ⟨#[]⟩) 1 16 Tryz.underlying31 hi hz0 hz1 hz2 rfl (by decide) (.slice A5 ss.length q5) ss.length (strV (ss.map (spText H))) rfl
     (HO.out.alloc _) (wr.heap.size + 1) (some ⟨wr.heap.size,0,none⟩) 1 1 [.string (spText H x)] rfl hRD.out (by simp [Value.oneCell']) (by unfold maxLen; omega) (by omega) (by simp; omega) ?_
    intro v5 w5 hown5 hg5 hat5
    have hk5:=(Keep.of_grown hg5 (fun i=>(Value.slice A5 ss.length q5).ownBlock = some i) (fun k hk=>.inl hk))
    have HQ5:=Lib.hid ((HQ2.out.alloc (.cells #[.string (spText H x)] 9)).keep hk5 (fun k hk h=>HN4.out (by rw [h]; rw [HV4.out] at hk; exact hk.symm)))
    have HO5 : Hid (w5.ownsRow u1.heap.size 9 1 v5 (ss ++ [x]).length (strV ((ss ++ [x]).map (spText H)))):=Lib.hid (by
     rw [show strV ((ss ++ [x]).map (spText H)) = strV (ss.map (spText H)) ++ [.string (spText H x)] by simp [strV],show (ss ++ [x]).length = ss.length + 1 by simp]
     exact hown5)
    have HN5 : Hid (v4.ownBlock ≠ v5.ownBlock):=Lib.hid (by
     rw [HV4.out]
     intro e
     rcases hat5 with h | h
     ·exact HN4.out (by rw [← h,← e])
     ·rw [h] at e
      have:=Option.some.inj e
      simp at this
      omega)
    have HB5 : Hid (Below u1.heap.size u1 w5):=Lib.hid ((HB.out.alloc HB.out.size (.cells #[.string (spText H x)] 9)).trans (hk5.to_below (B:=u1.heap.size) (by simp; omega) (fun i h=>(HO.out.lt i h).1)))
    clear hown5 hg5 hat5 hk5)
   have HTX:=Lib.hid (sp_size HGD.out.right HH.out (HI.out.live x (by simp)))
   have HRD:=Lib.hid (HLS.out.rd.below (Nat.le_refl _) HB5.out)
   go_upto_region 12 with (first
    |(go_at_call 15
      refine (lw_own2 HRD.out HLS.out.few_).mono ?_
      rintro e u2 ⟨B2,t2,rfl,hr,hb⟩
      have HU2:=Lib.hid hr
      have HBU2:=Lib.hid hb
      clear hr hb)
    |(go_at_call 14
      refine (lw_do (q:=t2) HU2.out HLS.out.it HLS.out.itm HLS.out.few2 (HLV1.out.below (bl_t HB5.out HBU2.out)) (o:=oAt 20 (spText H x)) (oAt_small HTX.out) (oAt_ints _ _)).mono ?_
      rintro e v2 hD
      obtain ⟨A2,q2,C2,x2,E2,y2,p2,l2,rfl,hd,hr,hn,hb⟩:=hD
      have hbx : Below v2.heap.size v2 (v2.alloc (.cells #[.int .i64 p2.code,.string p2.data,.slice C2 p2.names.length x2,.slice E2 p2.ranges.length y2,.int .i64 p2.ino,.int .i64 p2.nd.kind,.int .i64 p2.nd.mode,.int .i64 p2.nd.time,.int .i64 p2.nd.links,.int .i64 p2.nd.size,.string p2.nd.target] 36)):=(Below.refl _ _).alloc (Nat.le_refl _) _
      have HD2:=Lib.hid hd
      have HBW2:=Lib.hid (bl_t (bl_t HBU2.out hb) hbx)
      have HA2:=Lib.hid (Blk.new v2 36 #[.int .i64 p2.code,.string p2.data,.slice C2 p2.names.length x2,.slice E2 p2.ranges.length y2,.int .i64 p2.ino,.int .i64 p2.nd.kind,.int .i64 p2.nd.mode,.int .i64 p2.nd.time,.int .i64 p2.nd.links,.int .i64 p2.nd.size,.string p2.nd.target])
      obtain ⟨r2,hrk⟩ : ∃ r2,r2 = v2.heap.size:=⟨_,rfl⟩
      rw [← hrk] at HA2
      have HRK2:=Lib.hid hrk
      clear hd hr hn hb hbx hrk))
   rw [← HRK2.out]
   generalize v2.alloc (.cells #[.int .i64 p2.code,.string p2.data,.slice C2 p2.names.length x2,.slice E2 p2.ranges.length y2,.int .i64 p2.ino,.int .i64 p2.nd.kind,.int .i64 p2.nd.mode,.int .i64 p2.nd.time,.int .i64 p2.nd.links,.int .i64 p2.nd.size,.string p2.nd.target] 36) = W2 at *
   have HQ6:=Lib.hid (HQ5.out.keep (Keep.of_below HBW2.out (fun _=>False)) (fun _ _ h=>h))
   have HO6:=Lib.hid (own_keep HO5.out (Keep.of_below HBW2.out (fun _=>False)) (fun _ _ h=>h))
   have HB6:=Lib.hid (bl_t HB5.out HBW2.out)
   obtain ⟨hcode,hleaf,hdir⟩:=shw_step HGD.out HM.out HH.out HI.out HD2.out
   have x0 : W2.cell? ⟨r2,0,none⟩ = some (.int .i64 p2.code):=HA2.out.cell 0
   have x5 : W2.cell? ⟨r2,5,none⟩ = some (.int .i64 p2.nd.kind):=HA2.out.cell 5
   rw [hcode] at x0
   have HLEAF:=Lib.hid hleaf
   have HDIR:=Lib.hid hdir
   clear hleaf hdir hcode
   by_cases hk : p2.nd.kind = 2
   ·go_upto_region 15 with fail
    have HRD3:=Lib.hid (HLS.out.rd.below (Nat.le_refl _) HB6.out)
    go_upto_region 16 with (first
     |(go_at_call 15
       refine (lw_own2 HRD3.out HLS.out.few_).mono ?_
       rintro e u3 ⟨B3,t3,rfl,hr,hb⟩
       have HU3:=Lib.hid hr
       have HBU3:=Lib.hid hb
       clear hr hb)
     |(go_at_call 14
       refine (lw_do (q:=t3) HU3.out HLS.out.it HLS.out.itm HLS.out.few2 (HLV1.out.below (bl_t HB6.out HBU3.out)) (o:=oAt 18 (spText H x)) (oAt_small HTX.out) (oAt_ints _ _)).mono ?_
       rintro e v3 hD
       obtain ⟨A3,q3,C3,x3,E3,y3,p3,l3,rfl,hd,hr,hn,hb⟩:=hD
       have hbx : Below v3.heap.size v3 (v3.alloc (.cells #[.int .i64 p3.code,.string p3.data,.slice C3 p3.names.length x3,.slice E3 p3.ranges.length y3,.int .i64 p3.ino,.int .i64 p3.nd.kind,.int .i64 p3.nd.mode,.int .i64 p3.nd.time,.int .i64 p3.nd.links,.int .i64 p3.nd.size,.string p3.nd.target] 36)):=(Below.refl _ _).alloc (Nat.le_refl _) _
       have HD3:=Lib.hid hd
       have HBW3:=Lib.hid (bl_t (bl_t HBU3.out hb) hbx)
       have HA3:=Lib.hid (Blk.new v3 36 #[.int .i64 p3.code,.string p3.data,.slice C3 p3.names.length x3,.slice E3 p3.ranges.length y3,.int .i64 p3.ino,.int .i64 p3.nd.kind,.int .i64 p3.nd.mode,.int .i64 p3.nd.time,.int .i64 p3.nd.links,.int .i64 p3.nd.size,.string p3.nd.target])
       have HNM:=Lib.hid (own_base (base':=W2.heap.size) (own_keep hn (Keep.of_below hbx (fun _=>False)) (fun _ _ h=>h)) (fun k hk=>Nat.le_trans HBU3.out.size (hn.lt k hk).1))
       obtain ⟨r3,hrk⟩ : ∃ r3,r3 = v3.heap.size:=⟨_,rfl⟩
       rw [← hrk] at HA3
       have HRK3:=Lib.hid hrk
       have HR3 : Hid (W2.heap.size ≤ r3):=Lib.hid (by rw [hrk]; exact Nat.le_trans HBU3.out.size hb.size)
       clear hd hr hn hb hbx hrk))
    rw [← HRK3.out]
    generalize v3.alloc (.cells #[.int .i64 p3.code,.string p3.data,.slice C3 p3.names.length x3,.slice E3 p3.ranges.length y3,.int .i64 p3.ino,.int .i64 p3.nd.kind,.int .i64 p3.nd.mode,.int .i64 p3.nd.time,.int .i64 p3.nd.links,.int .i64 p3.nd.size,.string p3.nd.target] 36) = W3 at *
    have HQ7:=Lib.hid (HQ6.out.keep (Keep.of_below HBW3.out (fun _=>False)) (fun _ _ h=>h))
    have HO7:=Lib.hid (own_keep HO6.out (Keep.of_below HBW3.out (fun _=>False)) (fun _ _ h=>h))
    have HB7:=Lib.hid (bl_t HB6.out HBW3.out)
    obtain ⟨ks,hI2,hks⟩:=HDIR.out hk _ _ HD3.out
    have HI2:=Lib.hid hI2
    have HKS:=Lib.hid hks
    clear hI2 hks
    obtain ⟨nf,hnf⟩ : ∃ nf : ByteArray → ByteArray,nf = fun nm=>if spText H x = slash then slash ++ nm else spText H x ++ slash ++ nm:=⟨_,rfl⟩
    rw [← hnf] at HKS
    have HPN : Hid (p3.names.length ≤ 1000000):=Lib.hid (by
     have h1:=congrArg List.length HKS.out
     have h2:=HI2.out.few HFW.out
     simp only [List.length_map,List.length_append,List.length_singleton] at h1 h2
     omega)
    have HNZ : Hid (∀ nm ∈ p3.names,nm.size ≤ 1023):=Lib.hid (fun nm hnm=>by
     have h1 : nf nm ∈ ks.map (spText H):=by rw [HKS.out]; exact List.mem_map_of_mem hnm
     obtain ⟨c,hc,e⟩:=List.mem_map.1 h1
     have h2:=sp_size HGD.out.right HH.out (HI2.out.live c (by simp [hc]))
     rw [e,hnf] at h2
     simp only at h2
     split at h2 <;> simp only [ByteArray.size_append] at h2 <;> omega)
    have hg6 : g4 < W2.heap.size:=(HQ6.out.lt g4 HV4.out).2
    have hq8 : Hid (QRow W3 u1.heap.size 9 v4 (strV (ws.map (spText H) ++ (p3.names.take 0).map nf))):=Lib.hid (by simpa using HQ7.out)
    have hv8 : Hid (∀ i,v4.ownBlock = some i → i = g4 ∨ W3.heap.size ≤ i):=Lib.hid fun i h=>.inl (by rw [HV4.out] at h; cases h; rfl)
    have hr3 : r3 ≠ g4:=by have:=HR3.out; omega
    go_upto_region 17 with fail
    go_loopw [4,11] (fun v4 v11 wr=>∃ k : Nat,v11 = .int .i64 k ∧ k ≤ p3.names.length ∧ Hid (QRow wr u1.heap.size 9 v4 (strV (ws.map (spText H) ++ (p3.names.take k).map nf))) ∧ Keep (fun i=>i = g4) W3 wr ∧ Hid (∀ i,v4.ownBlock = some i → i = g4 ∨ W3.heap.size ≤ i)) (fun _ v11 _=>p3.names.length - (intOf v11).toNat)
    case atStart=>exact ⟨0,rfl,Nat.zero_le _,hq8,Keep.refl _ _,hv8⟩
    case round=>
     obtain ⟨k,rfl,hkn,HQ8,hk8,HV8⟩:=hrel
     have x2c : wr.cell? ⟨r3,2,none⟩ = some (.slice C3 p3.names.length x3):=(HA3.out.keep hk8 hr3).cell 2
     have HNM8:=Lib.hid (own_keep HNM.out hk8 (fun i h e=>by have:=(HNM.out.lt i h).1; omega))
     have HK8:=Lib.hid hk8
     clear hk8
     by_cases hlt : k < p3.names.length
     ·obtain ⟨gN,cN,hvN,hbN,_⟩:=own_block HNM8.out (by omega)
      cases hvN
      have hnk : p3.names[k]? = some p3.names[k]:=List.getElem?_eq_getElem hlt
      have cnm : wr.cell? ⟨gN,k,none⟩ = some (.string p3.names[k]):=by
       have h:=HNM8.out.cells (g:=gN) rfl k (.string p3.names[k]) (by unfold strV; rw [List.getElem?_map,hnk]; rfl)
       simpa [Addr.add_lit] using h
      generalize p3.names[k] = nm at *
      obtain ⟨A8,q8,rfl⟩:=HQ8.out.slice
      have hn4 : ws.length ≤ 1000:=by simp at hfew; omega
      have hpn : p3.names.length ≤ 1000000:=HPN.out
      have hnz : nm.size ≤ 1023:=HNZ.out nm (List.mem_of_getElem? hnk)
      have hxz:=HTX.out
      have hs0 : (⟨#[47]⟩ : ByteArray).size = 1:=rfl
      have hlen8 : (strV (ws.map (spText H) ++ (p3.names.take k).map nf)).length = ws.length + k:=by simp [strV]; omega
      by_cases hsl : spText H x = slash
      ·have hb1 : ((spText H x).toList == [47]) = true:=by rw [hsl,toList_eq]; rfl
       have HTT : Hid ((⟨#[47]⟩ : ByteArray) ++ nm = nf nm):=Lib.hid (by rw [hnf]; simp only; rw [if_pos hsl]; rfl)
       clear hsl
       have hs9:=HK8.out.size
       have hsz8 : u1.heap.size ≤ wr.heap.size:=Nat.le_trans HB7.out.size hs9
       go_wp2_with (
        at_builtin
        refine wpList_append_que _ rfl _ _ _ rfl u1.heap.size 9 i0 (.string ⟨#[]⟩) 16 Tryz.underlying31 hi hz0 hz1 hz2 rfl (.slice A8 (strV (ws.map (spText H) ++ (p3.names.take k).map nf)).length q8) (strV (ws.map (spText H) ++ (p3.names.take k).map nf)) rfl
         (HQ8.out.alloc _) ⟨wr.heap.size,0,none⟩ 1 (.string (nf nm)) rfl (by rw [← HTT.out]; exact (Blk.new wr 9 #[.string ((⟨#[47]⟩ : ByteArray) ++ nm)]).cell 0) (by simp [Value.oneCell']) (by unfold maxLen; rw [hlen8]; omega) (by rw [hlen8]; omega) (by simp; omega) ?_
        intro v9 w9 hq9 hg9 hat9
        have HK9:=Lib.hid ((HK8.out.alloc (.cells #[.string ((⟨#[47]⟩ : ByteArray) ++ nm)] 9)).grown hg9 (fun i h=>HV8.out i h))
        have HQ9:=Lib.hid hq9
        have HV9 : Hid (∀ i,v9.ownBlock = some i → i = g4 ∨ W3.heap.size ≤ i):=Lib.hid (fun i h=>by
         rcases hat9 with e | e
         ·exact HV8.out i (e ▸ h)
         ·rw [e] at h; cases h; right; simp; omega)
        clear hq9 hg9 hat9)
       go_roundw
       case rel=>exact ⟨k + 1,by go_num,by omega,Lib.hid (by
        have h:=HQ9.out
        rw [show strV (ws.map (spText H) ++ (p3.names.take k).map nf) ++ [Value.string (nf nm)] = strV (ws.map (spText H) ++ (p3.names.take (k + 1)).map nf) by rw [List.take_add_one,hnk]; simp [strV]] at h
        exact h),HK9.out,HV9⟩
       case measure=>simp [intOf]; omega
      ·have hb1 : ((spText H x).toList == [47]) = false:=beq_eq_false_iff_ne.2 (fun e=>hsl (baD_ext (by rw [toList_eq] at e; exact e)))
       have HTT : Hid (spText H x ++ (⟨#[47]⟩ : ByteArray) ++ nm = nf nm):=Lib.hid (by rw [hnf]; simp only; rw [if_neg hsl]; rfl)
       clear hsl
       have hs9:=HK8.out.size
       have hsz8 : u1.heap.size ≤ wr.heap.size:=Nat.le_trans HB7.out.size hs9
       go_wp2_with (
        at_builtin
        refine wpList_append_que _ rfl _ _ _ rfl u1.heap.size 9 i0 (.string ⟨#[]⟩) 16 Tryz.underlying31 hi hz0 hz1 hz2 rfl (.slice A8 (strV (ws.map (spText H) ++ (p3.names.take k).map nf)).length q8) (strV (ws.map (spText H) ++ (p3.names.take k).map nf)) rfl
         (HQ8.out.alloc _) ⟨wr.heap.size,0,none⟩ 1 (.string (nf nm)) rfl (by rw [← HTT.out]; exact (Blk.new wr 9 #[.string (spText H x ++ (⟨#[47]⟩ : ByteArray) ++ nm)]).cell 0) (by simp [Value.oneCell']) (by unfold maxLen; rw [hlen8]; omega) (by rw [hlen8]; omega) (by simp; omega) ?_
        intro v9 w9 hq9 hg9 hat9
        have HK9:=Lib.hid ((HK8.out.alloc (.cells #[.string (spText H x ++ (⟨#[47]⟩ : ByteArray) ++ nm)] 9)).grown hg9 (fun i h=>HV8.out i h))
        have HQ9:=Lib.hid hq9
        have HV9 : Hid (∀ i,v9.ownBlock = some i → i = g4 ∨ W3.heap.size ≤ i):=Lib.hid (fun i h=>by
         rcases hat9 with e | e
         ·exact HV8.out i (e ▸ h)
         ·rw [e] at h; cases h; right; simp; omega)
        clear hq9 hg9 hat9)
       go_roundw
       case rel=>exact ⟨k + 1,by go_num,by omega,Lib.hid (by
        have h:=HQ9.out
        rw [show strV (ws.map (spText H) ++ (p3.names.take k).map nf) ++ [Value.string (nf nm)] = strV (ws.map (spText H) ++ (p3.names.take (k + 1)).map nf) by rw [List.take_add_one,hnk]; simp [strV]] at h
        exact h),HK9.out,HV9⟩
       case measure=>simp [intOf]; omega
     ·obtain rfl : k = p3.names.length:=by omega
      obtain ⟨A8,q8,rfl⟩:=HQ8.out.slice
      have hfin : Hid (QRow wr u1.heap.size 9 (.slice A8 (strV (ws.map (spText H) ++ (p3.names.take p3.names.length).map nf)).length q8) (strV ((ws ++ ks).map (spText H)))):=Lib.hid (by
       have h:=HQ8.out
       rw [List.map_append,HKS.out]
       rw [List.take_length] at h ⊢
       exact h)
      have hne : Hid ((Value.slice A8 (strV (ws.map (spText H) ++ (p3.names.take p3.names.length).map nf)).length q8).ownBlock ≠ v5.ownBlock):=Lib.hid (by
       obtain ⟨i,hi8⟩:=HQ8.out.own
       rw [hi8]
       intro e
       have h5:=(HO7.out.lt i e.symm).2
       rcases HV8.out i hi8 with h | h
       ·subst h
        exact HN5.out (by rw [HV4.out,e])
       ·omega)
      have hof:=Lib.hid (own_keep HO7.out HK8.out (fun i h e=>HN5.out (by rw [HV4.out,h,e])))
      have hbf:=Lib.hid (HB7.out.trans (HK8.out.to_below (B:=u1.heap.size) HB7.out.size (fun i h=>by rw [h]; exact (HQ6.out.lt g4 HV4.out).1)))
      obtain ⟨A7,q7,rfl⟩:=own_slice HO7.out
      go_wp2_with fail
      go_roundw
      case rel=>exact ⟨_,_,HI2,hfin,hof,hne,hbf⟩
      case measure=>simp only [List.length_append,List.length_singleton]; omega
   ·have hk' : (p2.nd.kind != 2) = true:=by simpa using hk
    have HIN:=Lib.hid (HLEAF.out hk)
    clear hk
    obtain ⟨A6,q6,rfl⟩:=HQ6.out.slice
    obtain ⟨A7,q7,rfl⟩:=own_slice HO6.out
    go_wp2_with fail
    go_roundw
    case rel=>exact ⟨_,_,HIN,HQ6,HO6,HN5,HB6⟩
    case measure=>simp only [List.length_append,List.length_singleton]; omega
end Go.Proofs.YtpboohfofodeeaaGreatDoor
/- FilesShow: whatever the input it answers true, and its arguments are as they were: the row, and the tied card (conditions: what the row lists, tied to the program's text). -/
namespace Go.Proofs.YtpboohfofodeeaaGreatDoor.filesShow
open Go.ChangeShapes Go.WideShapes Go.ChangeAt Go.RowKit
theorem own : ownKnob Tryz.prog.godebug = none:=by kernel_rfl
theorem laidOut : laidOutB Tryz.prog = true:=by kernel_rfl
set_option maxRecDepth 100000 in
theorem lifted (os : Os) (started : os.Started) (H : Type) (enc : TypeId × Value → H) :
 ReturnsInHanded {} Tryz.checked os 9 .any (fun w args=>(Rows.filesShowSpec.pre enc Tryz.prog Tryz.f9 Rows.filesShowRow.domain false w args ∧ laidMetH Tryz.prog Rows.filesShowRow.laid w) ∧ sizedMet enc Tryz.prog Tryz.f9 (OpenSpec.ofChange Rows.filesShowSpec) false w args)
  (Rows.filesShowSpec.post enc Tryz.prog Tryz.f9 false true false false):=by
 refine returns_listed (C:=Tryz.checked) (X:=fun w _=>laidMetH Tryz.prog Rows.filesShowRow.laid w) (fun _ _ _ hh h=>h.of_heap hh) own started (by kernel_rfl) Tryz.func9
  (ChangeSpec.witness_shaped (enc:=enc) (C:=Tryz.checked) (os:=os) (X:=fun w _=>laidMetH Tryz.prog Rows.filesShowRow.laid w) false (World.laidAll Tryz.prog os Rows.filesShowRow.laid) #[.slice none 0 0] 8 (World.laidAll_os _ _ _)
   (World.shaped_of_ZipB (by kernel_rfl) (by kernel_rfl)) (by kernel_rfl) (by kernel_rfl) (by kernel_rfl)
   (by rw [MakeChecks.laidMetH_plain _ _ _ (by kernel_rfl)]; exact laidMet_laidAll _ (by kernel_rfl) (by kernel_rfl))) ?_
 intro W base args ds gs before hval0 hW _ _ _ hSh
 have hLV:=libv_of hSh
 have hval : ∀ (j : Nat) t v,Tryz.f9.params[j]? = some t → args[j]? = some v → Value.okWide Tryz.prog W .any base t v:=hval0
 have hW':=hW
 obtain ⟨p,q,hA0,hV,rfl,hfz,hnd⟩:=hW
 have hA : DataW.TrodAll enc Tryz.prog W 0 (fun _=>true) true Tryz.f9.params.toList args.toList ds p:=hA0
 rw [Tryz.params9] at hA hval
 obtain ⟨v0,vs0,d0,ds0,p0,q0,hargs,rfl,rfl,h0,r0⟩:=trodAll_cons hA
 obtain ⟨rfl,rfl,rfl⟩:=trodAll_nil r0
 obtain rfl : args = #[v0]:=by cases args; simp_all
 obtain ⟨rfl,rfl⟩:=trodVars_none hV
 obtain ⟨a0,len0,cap0,rfl⟩:=okWide_slice Tryz.underlying22 (hval 0 22 v0 rfl rfl)
 have k0:=h0
 have lt0 : ∀ x ∈ p0,x.block < W.heap.size:=by obtain ⟨m,hm⟩:=k0; exact DataW.trod_lt m _ _ _ hm
 obtain ⟨fuel0,hf0⟩:=h0
 obtain ⟨A0,n0,c0,cs0,e0,hr0⟩:=read_ops hf0
 obtain ⟨rfl,rfl,rfl⟩ : a0 = A0 ∧ len0 = n0 ∧ cap0 = c0:=by injection e0 with x y z; exact ⟨x,y,z⟩
 clear hA0 hval0
 refine (law_show hLV hr0).mono fun e W' ⟨he,bel⟩=>?_
 subst he
 exact ⟨_,rfl,_,_,_,[],_,[],hW',trodAll_mk1 (shut_bool Tryz.underlying4 _),(trodAll_cons_mk (Below.trod laidOut (by kernel_rfl) (of_decide_eq_true (by kernel_rfl)) k0 bel lt0) trodAll_mk0),rfl,bel.frame _,fun h=>by cases h⟩
theorem over : Rows.filesShowRow.holds Tryz.pinned (OpenSpec.ofChange Rows.filesShowSpec):=
 OpenClaim.holds_of_wide 9 Tryz.f9 rfl rfl rfl rfl rfl rfl rfl ⟨rfl,rfl,rfl,rfl,rfl⟩ rfl rfl rfl rfl rfl (by kernel_rfl) Tryz.func9 (by kernel_rfl)
  (of_decide_eq_true (by kernel_rfl)) (by unfold Func.isWrapper; first | (rw [if_pos (by decide +kernel)]; kernel_rfl) | (rw [if_neg (by decide +kernel)]; exact ⟨rfl,rfl⟩))
  (fun os started H enc _=>lifted os started H enc)
theorem proved : Rows.FilesShowCardSaid:=
 Claim7.holds_tied_plain_at .later [] [.data,.pinned] true _ false over (fun _ h=>by cases h) (by kernel_rfl) (fun _ h=>by cases h) filesShow_row_tie rfl ⟨rfl,rfl⟩ (by kernel_rfl) rfl
  (fun f fn hf hfn=>by
   obtain rfl : f = 9:=Option.some.inj ((show Tryz.prog.funcNamed "coppice/coppicelaw16.FilesShow" = some 9 by kernel_rfl).symm.trans hf) |>.symm
   obtain rfl : fn = Tryz.f9:=(Option.some.inj (Tryz.func9.symm.trans hfn)).symm
   exact ⟨by kernel_rfl,fun j t ht=>by
    rw [Tryz.params9] at ht
    have hm : t ∈ [22]:=by simpa using Array.mem_of_getElem? ht
    have hall : ([22].all fun u=>!Tryz.prog.wantsStandIn u) = true:=by kernel_rfl
    exact (show Tryz.prog.wantsStandIn t = false by simpa using List.all_eq_true.1 hall t hm)⟩)
  (by kernel_rfl)
#print axioms proved
end Go.Proofs.YtpboohfofodeeaaGreatDoor.filesShow
namespace Go.Proofs.YtpboohfofodeeaaGreatDoor
theorem filesShow_holds : Rows.FilesShowCardSaid:=filesShow.proved
end Go.Proofs.YtpboohfofodeeaaGreatDoor
