/- sparse: zeroed, Truncate, Punch (conditions: none; printed by gen_zeroed.py). -/
import Derived.Test.YtpboohfofodeeaaGreatDoorM23
import Derived.Lib.SliceRun
namespace Go.Proofs.YtpboohfofodeeaaGreatDoor
open Go.RowKit Go.Maps
/-- Bytes from lo on, below hi, are zeros. -/
def zeroL (l : List Int) (lo hi : Int) : List Int:=l.mapIdx fun k x=>if lo ≤ (k : Int) ∧ (k : Int) < hi then 0 else x
def zeroB (s : ByteArray) (lo hi : Int) : ByteArray:=strOfNums (zeroL (numsOf s) lo hi)
def zerP (lo_ hi_ : Int) (p : Int × ByteArray) : Int × ByteArray:=(p.1,zeroB p.2 (max (lo_ - p.1 * 64) 0) (min (hi_ - p.1 * 64) 64))
/-- What zeroed answers. -/
def zerS (lo_ hi_ : Int) (gone : Int → Bool) (ps : List (Int × ByteArray)) : List (Int × ByteArray):=(ps.filter fun p=>!gone p.1).map (zerP lo_ hi_)
theorem zeroL_len (l : List Int) (lo hi : Int) : (zeroL l lo hi).length = l.length:=by simp [zeroL]
theorem zeroL_none {l : List Int} {lo hi : Int} (h : ¬ lo < hi) : zeroL l lo hi = l:=by
 unfold zeroL
 refine List.ext_getElem (by simp) fun j h1 h2=>?_
 simp only [List.getElem_mapIdx]
 rw [if_neg (by omega)]
theorem of_store {w : World} {cs : Array Value} (hn : cs.size = 64) (h1 : cs.all (·.oneCell') = true) : ∃ W7,(Instr.storeAt 251 (.pointer (some ⟨w.heap.size,0,none⟩)) (.agg cs)).run Tryz.prog (w.alloc (.cells Z64 251)) = .ok () W7 ∧ Blk W7 w.heap.size 251 cs ∧ Below w.heap.size w W7:=by
 have hB:=Blk.new w 251 Z64
 have hb : Below w.heap.size w (w.alloc (.cells Z64 251)):=(Below.refl _ _).alloc (Nat.le_refl _) _
 have hst:=blk_store (P:=Tryz.prog) hB (cs':=cs) (by rw [hn,z64_size]) h1
 exact ⟨_,storeAt64 hn hst,hB.row,below_setRow hb (Nat.le_refl _) _⟩
theorem ar64 : Tryz.prog.arrayLen 251 = 64:=by kernel_rfl
theorem el64 : Tryz.prog.elem 251 = 5:=by kernel_rfl
theorem slice64 (W : World) (b lo hi : Nat) (h1 : lo < hi) (h2 : hi ≤ 64) : (Instr.sliceAt 251 (.pointer (some ⟨b,0,none⟩)) (some (.int .i64 lo)) (some (.int .i64 hi)) none).run Tryz.prog W = .ok (.slice (some ⟨b,lo,none⟩) (hi - lo) (64 - lo)) W:=by
 rw [run_sliceAt_array_lh W 251 ⟨b,0,none⟩ (by kernel_rfl) .i64 .i64 _ _ (by omega) (by omega) (by rw [ar64]; omega),el64,sz_u8]
 simp only [Result.andThen,slicedAt,ar64,Int.toNat_natCast]
 rw [if_neg (by omega),Nat.mul_one]
 have e : (⟨b,0,none⟩ : Addr).add lo = ⟨b,lo,none⟩:=by unfold Addr.add; split <;> simp_all
 rw [e]
theorem u8s_setCells (W : World) (b : Nat) (t : TypeId) : ∀ (m lo : Nat) (l : List Int),Blk W b t (u8s l) → Blk (W.setCells b lo (List.replicate m (.int .u8 0))) b t (u8s (l.mapIdx fun k x=>if lo ≤ k ∧ k < lo + m then 0 else x)) ∧ Keep (fun i=>i = b) W (W.setCells b lo (List.replicate m (.int .u8 0)))
 | 0,lo,l,h=>by
  have e : (l.mapIdx fun k x=>if lo ≤ k ∧ k < lo + 0 then (0 : Int) else x) = l:=by
   refine List.ext_getElem (by simp) fun j h1 h2=>?_
   simp only [List.getElem_mapIdx]
   rw [if_neg (by omega)]
  rw [e]
  exact ⟨h,Keep.refl _ _⟩
 | m + 1,lo,l,h=>by
  have h1:=h.set_ lo (.int .u8 0)
  rw [u8s_set] at h1
  obtain ⟨h2,h3⟩:=u8s_setCells (W.setCell ⟨b,lo,none⟩ (.int .u8 0)) b t m (lo + 1) _ h1
  have e : ((l.set lo 0).mapIdx fun k x=>if lo + 1 ≤ k ∧ k < lo + 1 + m then (0 : Int) else x) = (l.mapIdx fun k x=>if lo ≤ k ∧ k < lo + (m + 1) then (0 : Int) else x):=by
   refine List.ext_getElem (by simp) fun j h1 h2=>?_
   simp only [List.getElem_mapIdx,List.getElem_set]
   by_cases hj : lo = j
   ·subst hj
    rw [if_neg (by omega),if_pos rfl,if_pos (by omega)]
   ·rw [if_neg hj]
    by_cases h4 : lo + 1 ≤ j ∧ j < lo + 1 + m
    ·rw [if_pos h4,if_pos (by omega)]
    ·rw [if_neg h4,if_neg (by omega)]
  rw [e] at h2
  exact ⟨h2,(keep_set (Keep.refl _ W) lo _).trans h3 (fun _ _ h=>h)⟩
theorem clear64 {W : World} {b : Nat} {l : List Int} (hB : Blk W b 251 (u8s l)) (hl : l.length = 64) (lo hi : Nat) (h1 : lo < hi) (h2 : hi ≤ 64) : ∃ W8,(∀ ty,(Builtin.clear_ #[195] ty #[.slice (some ⟨b,lo,none⟩) (hi - lo) (64 - lo)]).run Tryz.prog W = .ok (.tuple #[]) W8) ∧ Blk W8 b 251 (u8s (zeroL l lo hi)) ∧ Keep (fun i=>i = b) W W8:=by
 obtain ⟨h3,h4⟩:=u8s_setCells W b 251 (hi - lo) lo l hB
 refine ⟨_,fun ty=>Lib.run_clear_slice (P:=Tryz.prog) W 195 5 ty (.int .u8 0) Tryz.underlying195 (fun w=>by kernel_rfl) rfl rfl b lo (hi - lo) (64 - lo) (by omega) (fun j hj=>?_) (fun j hj=>hB.frozen _),?_,h4⟩
 ·rw [hB.cell,u8s_at _ _ (by omega)]; rfl
 ·have e : (l.mapIdx fun k x=>if lo ≤ k ∧ k < lo + (hi - lo) then (0 : Int) else x) = zeroL l lo hi:=by
   unfold zeroL
   refine List.ext_getElem (by simp) fun j h1 h2=>?_
   simp only [List.getElem_mapIdx]
   by_cases h4 : lo ≤ j ∧ j < lo + (hi - lo)
   ·rw [if_pos h4,if_pos (by omega)]
   ·rw [if_neg h4,if_neg (by omega)]
  rw [← e]
  exact h3
theorem zerS_step {lo_ hi_ : Int} {gone : Int → Bool} {ps : List (Int × ByteArray)} {j : Nat} (hj : j < ps.length) : zerS lo_ hi_ gone (ps.take (j + 1)) = if gone (ps[j]).1 = true then zerS lo_ hi_ gone (ps.take j) else zerS lo_ hi_ gone (ps.take j) ++ [zerP lo_ hi_ ps[j]]:=by
 unfold zerS
 rw [List.take_succ_eq_append_getElem hj,List.filter_append,List.map_append]
 cases hg : gone (ps[j]).1 <;> simp [hg]
theorem zerS_le (lo_ hi_ : Int) (gone : Int → Bool) (ps : List (Int × ByteArray)) : (zerS lo_ hi_ gone ps).length ≤ ps.length:=by
 unfold zerS
 rw [List.length_map]
 exact List.length_filter_le _ _
def ZerEnds (w : World) (lo_ hi_ : Int) (gone : Int → Bool) (ps : List (Int × ByteArray)) (e : Ending) (w' : World) : Prop:=∃ v,e = .returned v ∧ w'.ownsRow w.heap.size 111 2 v (zerS lo_ hi_ gone ps).length (pcCs (zerS lo_ hi_ gone ps))
/-- What a closure answers of an index. -/
def GoneC (fn : FuncId) (caps : Value → Array Value) (gone : Int → Bool) (w : World) : Prop:=∀ (ix : Int) W,Below w.heap.size w W → 0 ≤ ix ∧ ix ≤ 72057594037927936 → Calls Tryz.prog fn (caps (.int .i64 ix)) W fun e w'=>e = .returned (.bool (gone ix)) ∧ W = w'
set_option maxRecDepth 100000 in
set_option maxHeartbeats 8000000 in
theorem sp_zeroedT {w : World} {A : Option Addr} {n c : Nat} {ps : List (Int × ByteArray)} {b1 : Nat} (lo_ hi_ : Int) (gone : Int → Bool) (hR : RdP w A n ps) (hn : n ≤ 1099511627776) (hbd : ∀ p ∈ ps,(0 ≤ p.1 ∧ p.1 ≤ 72057594037927936) ∧ p.2.size = 64) (hlo : 0 ≤ lo_ ∧ lo_ ≤ 4611686018427387904) (hhi : 0 ≤ hi_ ∧ hi_ ≤ 4611686018427387904)
 (hG : GoneC 185 (fun x=>#[x,Pa b1]) gone w) :
 Calls Tryz.prog 184 #[.slice A n c,.int .i64 lo_,.int .i64 hi_,.func (Fn.func 185) #[] #[Pa b1]] w fun e w'=>ZerEnds w lo_ hi_ gone ps e w' ∧ Below w.heap.size w w':=by
 obtain ⟨i0,hi,hz0,hz1,hz2⟩:=info_parts info_piece
 have HR:=Lib.hid hR
 have HBD:=Lib.hid hbd
 have HG:=Lib.hid hG
 clear hR hbd hG
 go_enter Tryz.func184,Tryz.ntmps184
 go_wp2
 go_loopw [9,18] (fun v i wr=>∃ j : Nat,j ≤ n ∧ i = .int .i64 j ∧ Below w.heap.size w wr ∧ Hid (wr.ownsRow w.heap.size 111 2 v (zerS lo_ hi_ gone (ps.take j)).length (pcCs (zerS lo_ hi_ gone (ps.take j))))) (fun _ i _=>n - (intOf i).toNat)
 case atStart=>exact ⟨0,by omega,rfl,Below.refl _ _,Lib.hid (by simpa [zerS,pcCs] using World.ownsRow_nil w w.heap.size 111 2)⟩
 case round=>
  obtain ⟨j,hj,rfl,hb,HO⟩:=hrel
  obtain ⟨Ao,qo,rfl⟩:=own_slice HO.out
  by_cases hlt : j < n
  case neg=>
   obtain rfl : j = n:=by omega
   have hps : ps.take j = ps:=List.take_of_length_le (by have:=HR.out.1; omega)
   rw [hps] at HO
   rw [hps]
   have HB:=Lib.hid hb
   have HY : Hid (ZerEnds w lo_ hi_ gone ps (.returned (.slice Ao (zerS lo_ hi_ gone ps).length qo)) wr):=Lib.hid ⟨_,rfl,HO.out⟩
   clear hb hps
   generalize (zerS lo_ hi_ gone ps).length = m at *
   go_wp2
   go_ret
   exact ⟨HY.out,HB.out⟩
  have HRw:=Lib.hid (HR.out.below hb)
  obtain ⟨g,o,hjl,rfl,hp0,hp1⟩:=HRw.out.at_ hlt
  have hstep:=zerS_step (lo_:=lo_) (hi_:=hi_) (gone:=gone) hjl
  obtain ⟨hix,hsz⟩:=HBD.out ps[j] (List.getElem_mem hjl)
  have hzl:=zerS_le lo_ hi_ gone (ps.take j)
  rw [List.length_take] at hzl
  generalize ps[j] = p at hp0 hp1 hstep hix hsz
  obtain ⟨ix,dt⟩:=p
  simp only at hp0 hp1 hix hsz hstep
  have HST:=Lib.hid hstep
  have HB:=Lib.hid hb
  have HIX:=Lib.hid hix
  clear hb hstep HRw
  generalize hL : zerS lo_ hi_ gone (ps.take j) = L at HO HST hzl ⊢
  generalize hm : L.length = m at HO hzl ⊢
  have HM:=Lib.hid hm
  clear hm hL
  go_upto_region 5 with fail
  have hb5:=Lib.hid (HB.out.alloc HB.out.size (.cells #[.int .i64 ix,.string dt] 111))
  have HO5:=Lib.hid (HO.out.alloc (.cells #[.int .i64 ix,.string dt] 111))
  have hP5:=Blk.new wr 111 #[.int .i64 ix,.string dt]
  generalize wr.alloc (.cells #[.int .i64 ix,.string dt] 111) = w5 at *
  generalize wr.heap.size = pa at *
  have hc0 : w5.cell? ⟨pa,0,none⟩ = some (.int .i64 ix):=hP5.cell 0
  have hc1 : w5.cell? ⟨pa,1,none⟩ = some (.string dt):=hP5.cell 1
  have HP5:=Lib.hid hP5
  clear hp0 hp1 HO hP5
  have hgc:=HG.out ix w5 hb5.out HIX.out
  cases hgn : gone ix with
  | true=>
   rw [hgn] at hgc
   have hE : zerS lo_ hi_ gone (ps.take (j + 1)) = L:=by rw [HST.out,if_pos hgn]
   have HGC:=Lib.hid hgc
   have HE:=Lib.hid hE
   clear hgc hgn hE
   go_wp2_with (go_at_call 185; refine HGC.out.mono ?_; rintro e w' ⟨rfl,rfl⟩)
   go_roundw
   case rel=>exact ⟨j + 1,by omega,by go_num,hb5.out,Lib.hid (by rw [HE.out,HM.out]; exact HO5.out)⟩
   case measure=>show n - Int.toNat ((j : Int) + 1) < n - Int.toNat (j : Int); omega
  | false=>
   rw [hgn] at hgc
   have hE : zerS lo_ hi_ gone (ps.take (j + 1)) = L ++ [zerP lo_ hi_ (ix,dt)]:=by rw [HST.out,if_neg (by rw [hgn]; decide)]
   have HGC:=Lib.hid hgc
   have HE:=Lib.hid hE
   clear hgc hgn hE
   have hln : (numsOf dt).length = 64:=by rw [numsOf_len,hsz]
   have hz : (u8s (numsOf dt)).size = 64:=by rw [u8s_size,hln]
   have HOF:=Lib.hid (sp_of ix dt w5 hsz)
   obtain ⟨lo,hlo'⟩ : ∃ lo : Nat,max (lo_ - ix * 64) 0 = (lo : Int):=⟨(max (lo_ - ix * 64) 0).toNat,by omega⟩
   have q1 : wrap64 (ix * 64) = ix * 64:=by unfold wrap64; omega
   have q2 : wrap64 (lo_ - ix * 64) = lo_ - ix * 64:=by unfold wrap64; omega
   have q3 : wrap64 (hi_ - ix * 64) = hi_ - ix * 64:=by unfold wrap64; omega
   have HZP : Hid (zerP lo_ hi_ (ix,dt) = (ix,strOfNums (zeroL (numsOf dt) lo (min (hi_ - ix * 64) 64)))):=Lib.hid (by unfold zerP zeroB; rw [hlo'])
   generalize numsOf dt = l at *
   by_cases hlh : (lo : Int) < min (hi_ - ix * 64) 64
   ·obtain ⟨hh,hhi'⟩ : ∃ hh : Nat,min (hi_ - ix * 64) 64 = (hh : Int):=⟨(min (hi_ - ix * 64) 64).toNat,by omega⟩
    rw [hhi'] at hlh HZP
    have hl1 : lo < hh:=by omega
    have hl2 : hh ≤ 64:=by omega
    have HPI:=Lib.hid (fun W=>sp_piece (zeroL l lo hh) ix W (by rw [zeroL_len,hln]))
    have hz8 : (u8s (zeroL l lo hh)).size = 64:=by rw [u8s_size,zeroL_len,hln]
    have HCL:=Lib.hid (fun W b hB=>clear64 (W:=W) (b:=b) hB hln lo hh hl1 hl2)
    have HSL:=Lib.hid (fun W b=>slice64 W b lo hh hl1 hl2)
    generalize zeroL l lo hh = l8 at *
    generalize strOfNums l8 = s8 at *
    go_wp2_with (first
     |(go_at_call 185; refine HGC.out.mono ?_; rintro e w' ⟨rfl,rfl⟩)
     |(go_at_call 181; refine HOF.out.mono ?_; rintro e w6 ⟨rfl,hb6⟩
       obtain ⟨W7,hS7,hB7,hb7⟩:=of_store (w:=w6) (cs:=u8s l) hz (u8s_one _)
       obtain ⟨W8,hC8,hB8,hk8⟩:=HCL.out W7 w6.heap.size hB7
       have hlt6 : w5.heap.size ≤ w6.heap.size:=hb6.size
       have hbb : Below w5.heap.size w5 W8:=(bl_t hb6 hb7).trans ((hk8.to_below (B:=w5.heap.size) (Nat.le_trans hlt6 hb7.size) (fun i hi=>by rw [hi]; exact hlt6)))
       have HS7:=Lib.hid hS7
       have hS8:=HSL.out W7 w6.heap.size
       have HL8:=Lib.hid (loadAt64 hz8 (blk_load (P:=Tryz.prog) hB8 hz8))
       have HBB:=Lib.hid hbb
       have d0 : W7.cell? ⟨pa,0,none⟩ = some (.int .i64 ix):=keepc' (bl_t hb6 hb7) (HP5.out.cell 0)
       have d8 : W8.cell? ⟨pa,0,none⟩ = some (.int .i64 ix):=keepc' hbb (HP5.out.cell 0)
       have HPI8:=Lib.hid (HPI.out W8)
       clear hS7 hB7 hb7 hB8 hk8 hbb hb6)
     |(refine wpList_store_eq rfl 251 (.tmp 12) (.tmp 27) rfl _ _ rfl rfl HS7.out ?_)
     |(refine wpList_load_eq rfl 251 (.tmp 12) rfl _ rfl HL8.out ?_)
     |(go_at_call 182; refine HPI8.out.mono ?_; rintro e w9 ⟨rfl,hb9⟩
       have hbb:=bl_t HBB.out hb9
       have HB9:=Lib.hid hbb
       have HO9:=Lib.hid (own_keep HO5.out (Keep.of_below hbb (fun _=>False)) (fun _ _ h=>h))
       have HBW:=Lib.hid (bl_t hb5.out hbb)
       clear hb9 hbb)
     |(at_builtin
       refine wpList_append_any _ rfl _ _ _ rfl w.heap.size 111 i0 (.agg #[.int .i64 0,.string ⟨#[]⟩]) 2 24 Tryz.underlying65 hi hz0 hz1 hz2 rfl (by decide) (.slice Ao m qo) m (pcCs L) rfl
        (HO9.out.alloc _) (w9.heap.size + 1) (some ⟨w9.heap.size,0,none⟩) 1 1 [.int .i64 ix,.string s8] rfl (reads_two _ _ _ _) (by simp [Value.oneCell']) (by unfold maxLen; omega) (by omega) (by have:=HBW.out.size; simp; omega) ?_
       intro v7 w10 hown7 hg7 hat7
       have HB10:=Lib.hid ((HBW.out.alloc HBW.out.size (.cells #[.int .i64 ix,.string s8] 111)).grown hg7 (by have:=HBW.out.size; simp; omega) (fun k hk=>(HO9.out.lt k hk).1))
       have HO10:=Lib.hid hown7
       clear hown7 hg7 hat7))
    go_roundw
    case rel=>exact ⟨j + 1,by omega,by go_num,HB10.out,Lib.hid (by
     rw [HE.out,HZP.out,List.length_append,HM.out,pcCs_append]
     exact HO10.out)⟩
    case measure=>show n - Int.toNat ((j : Int) + 1) < n - Int.toNat (j : Int); omega
   ·rw [zeroL_none hlh] at HZP
    have HPI:=Lib.hid (fun W=>sp_piece l ix W hln)
    generalize strOfNums l = s8 at *
    go_wp2_with (first
     |(go_at_call 185; refine HGC.out.mono ?_; rintro e w' ⟨rfl,rfl⟩)
     |(go_at_call 181; refine HOF.out.mono ?_; rintro e w6 ⟨rfl,hb6⟩
       obtain ⟨W7,hS7,hB7,hb7⟩:=of_store (w:=w6) (cs:=u8s l) hz (u8s_one _)
       have hbb : Below w5.heap.size w5 W7:=bl_t hb6 hb7
       have HS7:=Lib.hid hS7
       have HL8:=Lib.hid (loadAt64 hz (blk_load (P:=Tryz.prog) hB7 hz))
       have HBB:=Lib.hid hbb
       have d0 : W7.cell? ⟨pa,0,none⟩ = some (.int .i64 ix):=keepc' hbb (HP5.out.cell 0)
       have HPI8:=Lib.hid (HPI.out W7)
       clear hS7 hB7 hb7 hbb hb6)
     |(refine wpList_store_eq rfl 251 (.tmp 12) (.tmp 27) rfl _ _ rfl rfl HS7.out ?_)
     |(refine wpList_load_eq rfl 251 (.tmp 12) rfl _ rfl HL8.out ?_)
     |(go_at_call 182; refine HPI8.out.mono ?_; rintro e w9 ⟨rfl,hb9⟩
       have hbb:=bl_t HBB.out hb9
       have HB9:=Lib.hid hbb
       have HO9:=Lib.hid (own_keep HO5.out (Keep.of_below hbb (fun _=>False)) (fun _ _ h=>h))
       have HBW:=Lib.hid (bl_t hb5.out hbb)
       clear hb9 hbb)
     |(at_builtin
       refine wpList_append_any _ rfl _ _ _ rfl w.heap.size 111 i0 (.agg #[.int .i64 0,.string ⟨#[]⟩]) 2 24 Tryz.underlying65 hi hz0 hz1 hz2 rfl (by decide) (.slice Ao m qo) m (pcCs L) rfl
        (HO9.out.alloc _) (w9.heap.size + 1) (some ⟨w9.heap.size,0,none⟩) 1 1 [.int .i64 ix,.string s8] rfl (reads_two _ _ _ _) (by simp [Value.oneCell']) (by unfold maxLen; omega) (by omega) (by have:=HBW.out.size; simp; omega) ?_
       intro v7 w10 hown7 hg7 hat7
       have HB10:=Lib.hid ((HBW.out.alloc HBW.out.size (.cells #[.int .i64 ix,.string s8] 111)).grown hg7 (by have:=HBW.out.size; simp; omega) (fun k hk=>(HO9.out.lt k hk).1))
       have HO10:=Lib.hid hown7
       clear hown7 hg7 hat7))
    go_roundw
    case rel=>exact ⟨j + 1,by omega,by go_num,HB10.out,Lib.hid (by
     rw [HE.out,HZP.out,List.length_append,HM.out,pcCs_append]
     exact HO10.out)⟩
    case measure=>show n - Int.toNat ((j : Int) + 1) < n - Int.toNat (j : Int); omega
theorem right_sizes {size : Int} : ∀ {ps : List (Int × ByteArray)} {last : Int},rightP size last ps → ∀ p ∈ ps,p.2.size = 64
 | [],_,_,p,hp=>by simp at hp
 | x :: t,last,h,p,hp=>by
  obtain ⟨⟨h1,h2,h4,_⟩,h3⟩:=h
  rcases List.mem_cons.1 hp with rfl | hp
  ·exact h4
  ·exact right_sizes h3 p hp
theorem check_bounds {size : Int} {ps : List (Int × ByteArray)} (h : checkP size ps) : ∀ p ∈ ps,(0 ≤ p.1 ∧ p.1 ≤ 72057594037927936) ∧ p.2.size = 64:=fun p hp=>by
 have h1:=right_bounds h.2.2 p hp
 have h2:=h.2.1
 exact ⟨by omega,right_sizes h.2.2 p hp⟩
theorem gone_t {w : World} {b : Nat} {m : Int} (hc : w.cell? ⟨b,0,none⟩ = some (.int .i64 m)) : GoneC 185 (fun x=>#[x,Pa b]) (fun ix=>decide (m ≤ ix * 64)) w:=by
 intro ix W hb hix
 have c : W.cell? ⟨b,0,none⟩ = some (.int .i64 m):=keepc' hb hc
 have q : wrap64 (ix * 64) = ix * 64:=by unfold wrap64; omega
 clear hb hc
 show Calls Tryz.prog _ #[.int .i64 ix,Pa b] W _
 go_enter Tryz.func185,Tryz.ntmps185
 go_wp2
 go_ret
 exact ⟨rfl,rfl⟩
def truncS (m : Int) (ps : List (Int × ByteArray)) : List (Int × ByteArray):=zerS m 4611686018427387904 (fun ix=>decide (m ≤ ix * 64)) ps
def TrEnds (w : World) (size m : Int) (ps : List (Int × ByteArray)) (e : Ending) (w' : World) : Prop:=
 (¬ checkP size ps ∧ e = .returned (.tuple #[.slice none 0 0,.int .i64 0,.int .i64 21])) ∨ (checkP size ps ∧ m < 0 ∧ e = .returned (.tuple #[.slice none 0 0,.int .i64 0,.int .i64 1])) ∨
 (checkP size ps ∧ 4611686018427387904 < m ∧ e = .returned (.tuple #[.slice none 0 0,.int .i64 0,.int .i64 130])) ∨
 (checkP size ps ∧ (0 ≤ m ∧ m ≤ 4611686018427387904) ∧ ∃ v,e = .returned (.tuple #[v,.int .i64 m,.int .i64 0]) ∧ w'.ownsRow w.heap.size 111 2 v (truncS m ps).length (pcCs (truncS m ps)))
set_option maxRecDepth 100000 in
set_option maxHeartbeats 4000000 in
theorem sp_truncate {w : World} {A : Option Addr} {n c : Nat} {ps : List (Int × ByteArray)} (size m : Int) (hR : RdP w A n ps) (hn : n ≤ 1099511627776) :
 Calls Tryz.prog 114 #[.slice A n c,.int .i64 size,.int .i64 m] w fun e w'=>TrEnds w size m ps e w' ∧ Below w.heap.size w w':=by
 have hb0 : Below w.heap.size w (w.alloc (.cells #[.int .i64 m] 3)):=(Below.refl _ _).alloc (Nat.le_refl _) _
 have hM:=Blk.new w 3 #[.int .i64 m]
 have hC:=Lib.hid (sp_check (w:=w.alloc (.cells #[.int .i64 m] 3)) (c:=c) size (hR.below hb0) (by omega))
 have c0 : (w.alloc (.cells #[.int .i64 m] 3)).cell? ⟨w.heap.size,0,none⟩ = some (.int .i64 m):=hM.cell 0
 have HR:=Lib.hid hR
 have HB0:=Lib.hid hb0
 clear hR hb0 hM
 by_cases hck : checkP size ps
 case neg=>
  have HY : Hid (∀ w',TrEnds w size m ps (.returned (.tuple #[.slice none 0 0,.int .i64 0,.int .i64 21])) w'):=Lib.hid fun w'=>.inl ⟨hck,rfl⟩
  have HK:=Lib.hid hck
  clear hck
  go_enter Tryz.func114,Tryz.ntmps114
  go_wp2_with (go_at_call 100; refine hC.out.mono ?_; rintro e w2 ⟨hce,hb2⟩; obtain rfl : e = .returned (.int .i64 21):=(hce.resolve_left (fun h=>HK.out h.1)).2; have HB2:=Lib.hid (bl_t HB0.out hb2); clear hce hb2)
  go_ret3
  exact ⟨HY.out _,HB2.out⟩
 have HK:=Lib.hid hck
 have hbd:=check_bounds hck
 clear hck
 by_cases hm1 : m < 0
 ·have HY : Hid (∀ w',TrEnds w size m ps (.returned (.tuple #[.slice none 0 0,.int .i64 0,.int .i64 1])) w'):=Lib.hid fun w'=>.inr (.inl ⟨HK.out,hm1,rfl⟩)
  go_enter Tryz.func114,Tryz.ntmps114
  go_wp2_with (go_at_call 100; refine hC.out.mono ?_; rintro e w2 ⟨hce,hb2⟩; obtain rfl : e = .returned (.int .i64 0):=(hce.resolve_right (fun h=>h.1 HK.out)).2; have HB2:=Lib.hid (bl_t HB0.out hb2); have c2:=keepc' hb2 c0; clear hce hb2)
  go_ret3
  exact ⟨HY.out _,HB2.out⟩
 have hm1' : 0 ≤ m:=by omega
 by_cases hm2 : 4611686018427387904 < m
 ·have HY : Hid (∀ w',TrEnds w size m ps (.returned (.tuple #[.slice none 0 0,.int .i64 0,.int .i64 130])) w'):=Lib.hid fun w'=>.inr (.inr (.inl ⟨HK.out,hm2,rfl⟩))
  go_enter Tryz.func114,Tryz.ntmps114
  go_wp2_with (go_at_call 100; refine hC.out.mono ?_; rintro e w2 ⟨hce,hb2⟩; obtain rfl : e = .returned (.int .i64 0):=(hce.resolve_right (fun h=>h.1 HK.out)).2; have HB2:=Lib.hid (bl_t HB0.out hb2); have c2:=keepc' hb2 c0; clear hce hb2)
  go_ret3
  exact ⟨HY.out _,HB2.out⟩
 have hm2' : m ≤ 4611686018427387904:=by omega
 have HZ : Hid (∀ W,Below (w.alloc (.cells #[.int .i64 m] 3)).heap.size (w.alloc (.cells #[.int .i64 m] 3)) W → Calls Tryz.prog 184 #[.slice A n c,.int .i64 m,.int .i64 4611686018427387904,.func (Fn.func 185) #[] #[Pa w.heap.size]] W fun e w'=>ZerEnds W m 4611686018427387904 (fun ix=>decide (m ≤ ix * 64)) ps e w' ∧ Below W.heap.size W w'):=Lib.hid fun W hW=>
  sp_zeroedT m 4611686018427387904 _ (HR.out.below (bl_t HB0.out hW)) hn hbd ⟨hm1',hm2'⟩ (by omega) (gone_t (keepc' hW c0))
 have HD : Hid (∀ W v w',Below w.heap.size w W → w'.ownsRow W.heap.size 111 2 v (truncS m ps).length (pcCs (truncS m ps)) → TrEnds w size m ps (.returned (.tuple #[v,.int .i64 m,.int .i64 0])) w'):=Lib.hid fun W v w' hW ho=>.inr (.inr (.inr ⟨HK.out,⟨hm1',hm2'⟩,v,rfl,own_base ho (fun k hk=>Nat.le_trans hW.size (ho.lt k hk).1)⟩))
 clear hbd
 go_enter Tryz.func114,Tryz.ntmps114
 go_wp2_with (go_at_call 100; refine hC.out.mono ?_; rintro e w2 ⟨hce,hb2⟩; obtain rfl : e = .returned (.int .i64 0):=(hce.resolve_right (fun h=>h.1 HK.out)).2; have HB2:=Lib.hid hb2; have c2:=keepc' hb2 c0; clear hce hb2)
 go_region_with ((go_at_call 184; refine (HZ.out _ (by first | exact HB2.out | exact HB2.out.drew)).mono ?_; rintro e w4 ⟨⟨v,rfl,hown⟩,hb4⟩; have c4:=keepc' hb4 (show World.cell? _ _ = _ from c2); have HT:=Lib.hid (HD.out _ _ _ (bl_t HB0.out (by first | exact HB2.out | exact HB2.out.drew)) hown); have HB4:=Lib.hid (bl_t (bl_t HB0.out (by first | exact HB2.out | exact HB2.out.drew)) hb4); clear hown hb4))
 all_goals go_wp2
 all_goals go_ret3
 all_goals exact ⟨HT.out,HB4.out⟩
end Go.Proofs.YtpboohfofodeeaaGreatDoor
/- sparse: Punch (conditions: none; printed by gen_zeroed.py). -/
namespace Go.Proofs.YtpboohfofodeeaaGreatDoor
open Go.RowKit Go.Maps
theorem gone_p {w : World} {b1 b2 b3 : Nat} {off size te : Int} (h1 : w.cell? ⟨b1,0,none⟩ = some (.int .i64 off)) (h2 : w.cell? ⟨b2,0,none⟩ = some (.int .i64 size)) (h3 : w.cell? ⟨b3,0,none⟩ = some (.int .i64 te)) : GoneC 186 (fun x=>#[x,Pa b1,Pa b2,Pa b3]) (fun ix=>decide (off ≤ ix * 64) && decide (min size ((ix + 1) * 64) ≤ te) && decide (off < te)) w:=by
 intro ix W hb hix
 have c1 : W.cell? ⟨b1,0,none⟩ = some (.int .i64 off):=keepc' hb h1
 have c2 : W.cell? ⟨b2,0,none⟩ = some (.int .i64 size):=keepc' hb h2
 have c3 : W.cell? ⟨b3,0,none⟩ = some (.int .i64 te):=keepc' hb h3
 have q : wrap64 (ix * 64) = ix * 64:=by unfold wrap64; omega
 have q2 : wrap64 (ix + 1) = ix + 1:=by unfold wrap64; omega
 have q3 : wrap64 ((ix + 1) * 64) = (ix + 1) * 64:=by unfold wrap64; omega
 clear hb h1 h2 h3
 show Calls Tryz.prog _ #[.int .i64 ix,Pa b1,Pa b2,Pa b3] W _
 by_cases g1 : off ≤ ix * 64 <;> by_cases g2 : min size ((ix + 1) * 64) ≤ te <;> by_cases g3 : off < te
 all_goals
  simp only [g1,g2,g3,decide_true,decide_false,Bool.and_true,Bool.and_false]
  go_enter Tryz.func186,Tryz.ntmps186
  go_wp2
  go_ret
  exact ⟨rfl,rfl⟩
set_option maxRecDepth 100000 in
set_option maxHeartbeats 8000000 in
theorem sp_zeroedP {w : World} {A : Option Addr} {n c : Nat} {ps : List (Int × ByteArray)} {b1 b2 b3 : Nat} (lo_ hi_ : Int) (gone : Int → Bool) (hR : RdP w A n ps) (hn : n ≤ 1099511627776) (hbd : ∀ p ∈ ps,(0 ≤ p.1 ∧ p.1 ≤ 72057594037927936) ∧ p.2.size = 64) (hlo : 0 ≤ lo_ ∧ lo_ ≤ 4611686018427387904) (hhi : 0 ≤ hi_ ∧ hi_ ≤ 4611686018427387904)
 (hG : GoneC 186 (fun x=>#[x,Pa b1,Pa b2,Pa b3]) gone w) :
 Calls Tryz.prog 184 #[.slice A n c,.int .i64 lo_,.int .i64 hi_,.func (Fn.func 186) #[] #[Pa b1,Pa b2,Pa b3]] w fun e w'=>ZerEnds w lo_ hi_ gone ps e w' ∧ Below w.heap.size w w':=by
 obtain ⟨i0,hi,hz0,hz1,hz2⟩:=info_parts info_piece
 have HR:=Lib.hid hR
 have HBD:=Lib.hid hbd
 have HG:=Lib.hid hG
 clear hR hbd hG
 go_enter Tryz.func184,Tryz.ntmps184
 go_wp2
 go_loopw [9,18] (fun v i wr=>∃ j : Nat,j ≤ n ∧ i = .int .i64 j ∧ Below w.heap.size w wr ∧ Hid (wr.ownsRow w.heap.size 111 2 v (zerS lo_ hi_ gone (ps.take j)).length (pcCs (zerS lo_ hi_ gone (ps.take j))))) (fun _ i _=>n - (intOf i).toNat)
 case atStart=>exact ⟨0,by omega,rfl,Below.refl _ _,Lib.hid (by simpa [zerS,pcCs] using World.ownsRow_nil w w.heap.size 111 2)⟩
 case round=>
  obtain ⟨j,hj,rfl,hb,HO⟩:=hrel
  obtain ⟨Ao,qo,rfl⟩:=own_slice HO.out
  by_cases hlt : j < n
  case neg=>
   obtain rfl : j = n:=by omega
   have hps : ps.take j = ps:=List.take_of_length_le (by have:=HR.out.1; omega)
   rw [hps] at HO
   rw [hps]
   have HB:=Lib.hid hb
   have HY : Hid (ZerEnds w lo_ hi_ gone ps (.returned (.slice Ao (zerS lo_ hi_ gone ps).length qo)) wr):=Lib.hid ⟨_,rfl,HO.out⟩
   clear hb hps
   generalize (zerS lo_ hi_ gone ps).length = m at *
   go_wp2
   go_ret
   exact ⟨HY.out,HB.out⟩
  have HRw:=Lib.hid (HR.out.below hb)
  obtain ⟨g,o,hjl,rfl,hp0,hp1⟩:=HRw.out.at_ hlt
  have hstep:=zerS_step (lo_:=lo_) (hi_:=hi_) (gone:=gone) hjl
  obtain ⟨hix,hsz⟩:=HBD.out ps[j] (List.getElem_mem hjl)
  have hzl:=zerS_le lo_ hi_ gone (ps.take j)
  rw [List.length_take] at hzl
  generalize ps[j] = p at hp0 hp1 hstep hix hsz
  obtain ⟨ix,dt⟩:=p
  simp only at hp0 hp1 hix hsz hstep
  have HST:=Lib.hid hstep
  have HB:=Lib.hid hb
  have HIX:=Lib.hid hix
  clear hb hstep HRw
  generalize hL : zerS lo_ hi_ gone (ps.take j) = L at HO HST hzl ⊢
  generalize hm : L.length = m at HO hzl ⊢
  have HM:=Lib.hid hm
  clear hm hL
  go_upto_region 5 with fail
  have hb5:=Lib.hid (HB.out.alloc HB.out.size (.cells #[.int .i64 ix,.string dt] 111))
  have HO5:=Lib.hid (HO.out.alloc (.cells #[.int .i64 ix,.string dt] 111))
  have hP5:=Blk.new wr 111 #[.int .i64 ix,.string dt]
  generalize wr.alloc (.cells #[.int .i64 ix,.string dt] 111) = w5 at *
  generalize wr.heap.size = pa at *
  have hc0 : w5.cell? ⟨pa,0,none⟩ = some (.int .i64 ix):=hP5.cell 0
  have hc1 : w5.cell? ⟨pa,1,none⟩ = some (.string dt):=hP5.cell 1
  have HP5:=Lib.hid hP5
  clear hp0 hp1 HO hP5
  have hgc:=HG.out ix w5 hb5.out HIX.out
  cases hgn : gone ix with
  | true=>
   rw [hgn] at hgc
   have hE : zerS lo_ hi_ gone (ps.take (j + 1)) = L:=by rw [HST.out,if_pos hgn]
   have HGC:=Lib.hid hgc
   have HE:=Lib.hid hE
   clear hgc hgn hE
   go_wp2_with (go_at_call 186; refine HGC.out.mono ?_; rintro e w' ⟨rfl,rfl⟩)
   go_roundw
   case rel=>exact ⟨j + 1,by omega,by go_num,hb5.out,Lib.hid (by rw [HE.out,HM.out]; exact HO5.out)⟩
   case measure=>show n - Int.toNat ((j : Int) + 1) < n - Int.toNat (j : Int); omega
  | false=>
   rw [hgn] at hgc
   have hE : zerS lo_ hi_ gone (ps.take (j + 1)) = L ++ [zerP lo_ hi_ (ix,dt)]:=by rw [HST.out,if_neg (by rw [hgn]; decide)]
   have HGC:=Lib.hid hgc
   have HE:=Lib.hid hE
   clear hgc hgn hE
   have hln : (numsOf dt).length = 64:=by rw [numsOf_len,hsz]
   have hz : (u8s (numsOf dt)).size = 64:=by rw [u8s_size,hln]
   have HOF:=Lib.hid (sp_of ix dt w5 hsz)
   obtain ⟨lo,hlo'⟩ : ∃ lo : Nat,max (lo_ - ix * 64) 0 = (lo : Int):=⟨(max (lo_ - ix * 64) 0).toNat,by omega⟩
   have q1 : wrap64 (ix * 64) = ix * 64:=by unfold wrap64; omega
   have q2 : wrap64 (lo_ - ix * 64) = lo_ - ix * 64:=by unfold wrap64; omega
   have q3 : wrap64 (hi_ - ix * 64) = hi_ - ix * 64:=by unfold wrap64; omega
   have HZP : Hid (zerP lo_ hi_ (ix,dt) = (ix,strOfNums (zeroL (numsOf dt) lo (min (hi_ - ix * 64) 64)))):=Lib.hid (by unfold zerP zeroB; rw [hlo'])
   generalize numsOf dt = l at *
   by_cases hlh : (lo : Int) < min (hi_ - ix * 64) 64
   ·obtain ⟨hh,hhi'⟩ : ∃ hh : Nat,min (hi_ - ix * 64) 64 = (hh : Int):=⟨(min (hi_ - ix * 64) 64).toNat,by omega⟩
    rw [hhi'] at hlh HZP
    have hl1 : lo < hh:=by omega
    have hl2 : hh ≤ 64:=by omega
    have HPI:=Lib.hid (fun W=>sp_piece (zeroL l lo hh) ix W (by rw [zeroL_len,hln]))
    have hz8 : (u8s (zeroL l lo hh)).size = 64:=by rw [u8s_size,zeroL_len,hln]
    have HCL:=Lib.hid (fun W b hB=>clear64 (W:=W) (b:=b) hB hln lo hh hl1 hl2)
    have HSL:=Lib.hid (fun W b=>slice64 W b lo hh hl1 hl2)
    generalize zeroL l lo hh = l8 at *
    generalize strOfNums l8 = s8 at *
    go_wp2_with (first
     |(go_at_call 186; refine HGC.out.mono ?_; rintro e w' ⟨rfl,rfl⟩)
     |(go_at_call 181; refine HOF.out.mono ?_; rintro e w6 ⟨rfl,hb6⟩
       obtain ⟨W7,hS7,hB7,hb7⟩:=of_store (w:=w6) (cs:=u8s l) hz (u8s_one _)
       obtain ⟨W8,hC8,hB8,hk8⟩:=HCL.out W7 w6.heap.size hB7
       have hlt6 : w5.heap.size ≤ w6.heap.size:=hb6.size
       have hbb : Below w5.heap.size w5 W8:=(bl_t hb6 hb7).trans ((hk8.to_below (B:=w5.heap.size) (Nat.le_trans hlt6 hb7.size) (fun i hi=>by rw [hi]; exact hlt6)))
       have HS7:=Lib.hid hS7
       have hS8:=HSL.out W7 w6.heap.size
       have HL8:=Lib.hid (loadAt64 hz8 (blk_load (P:=Tryz.prog) hB8 hz8))
       have HBB:=Lib.hid hbb
       have d0 : W7.cell? ⟨pa,0,none⟩ = some (.int .i64 ix):=keepc' (bl_t hb6 hb7) (HP5.out.cell 0)
       have d8 : W8.cell? ⟨pa,0,none⟩ = some (.int .i64 ix):=keepc' hbb (HP5.out.cell 0)
       have HPI8:=Lib.hid (HPI.out W8)
       clear hS7 hB7 hb7 hB8 hk8 hbb hb6)
     |(refine wpList_store_eq rfl 251 (.tmp 12) (.tmp 27) rfl _ _ rfl rfl HS7.out ?_)
     |(refine wpList_load_eq rfl 251 (.tmp 12) rfl _ rfl HL8.out ?_)
     |(go_at_call 182; refine HPI8.out.mono ?_; rintro e w9 ⟨rfl,hb9⟩
       have hbb:=bl_t HBB.out hb9
       have HB9:=Lib.hid hbb
       have HO9:=Lib.hid (own_keep HO5.out (Keep.of_below hbb (fun _=>False)) (fun _ _ h=>h))
       have HBW:=Lib.hid (bl_t hb5.out hbb)
       clear hb9 hbb)
     |(at_builtin
       refine wpList_append_any _ rfl _ _ _ rfl w.heap.size 111 i0 (.agg #[.int .i64 0,.string ⟨#[]⟩]) 2 24 Tryz.underlying65 hi hz0 hz1 hz2 rfl (by decide) (.slice Ao m qo) m (pcCs L) rfl
        (HO9.out.alloc _) (w9.heap.size + 1) (some ⟨w9.heap.size,0,none⟩) 1 1 [.int .i64 ix,.string s8] rfl (reads_two _ _ _ _) (by simp [Value.oneCell']) (by unfold maxLen; omega) (by omega) (by have:=HBW.out.size; simp; omega) ?_
       intro v7 w10 hown7 hg7 hat7
       have HB10:=Lib.hid ((HBW.out.alloc HBW.out.size (.cells #[.int .i64 ix,.string s8] 111)).grown hg7 (by have:=HBW.out.size; simp; omega) (fun k hk=>(HO9.out.lt k hk).1))
       have HO10:=Lib.hid hown7
       clear hown7 hg7 hat7))
    go_roundw
    case rel=>exact ⟨j + 1,by omega,by go_num,HB10.out,Lib.hid (by
     rw [HE.out,HZP.out,List.length_append,HM.out,pcCs_append]
     exact HO10.out)⟩
    case measure=>show n - Int.toNat ((j : Int) + 1) < n - Int.toNat (j : Int); omega
   ·rw [zeroL_none hlh] at HZP
    have HPI:=Lib.hid (fun W=>sp_piece l ix W hln)
    generalize strOfNums l = s8 at *
    go_wp2_with (first
     |(go_at_call 186; refine HGC.out.mono ?_; rintro e w' ⟨rfl,rfl⟩)
     |(go_at_call 181; refine HOF.out.mono ?_; rintro e w6 ⟨rfl,hb6⟩
       obtain ⟨W7,hS7,hB7,hb7⟩:=of_store (w:=w6) (cs:=u8s l) hz (u8s_one _)
       have hbb : Below w5.heap.size w5 W7:=bl_t hb6 hb7
       have HS7:=Lib.hid hS7
       have HL8:=Lib.hid (loadAt64 hz (blk_load (P:=Tryz.prog) hB7 hz))
       have HBB:=Lib.hid hbb
       have d0 : W7.cell? ⟨pa,0,none⟩ = some (.int .i64 ix):=keepc' hbb (HP5.out.cell 0)
       have HPI8:=Lib.hid (HPI.out W7)
       clear hS7 hB7 hb7 hbb hb6)
     |(refine wpList_store_eq rfl 251 (.tmp 12) (.tmp 27) rfl _ _ rfl rfl HS7.out ?_)
     |(refine wpList_load_eq rfl 251 (.tmp 12) rfl _ rfl HL8.out ?_)
     |(go_at_call 182; refine HPI8.out.mono ?_; rintro e w9 ⟨rfl,hb9⟩
       have hbb:=bl_t HBB.out hb9
       have HB9:=Lib.hid hbb
       have HO9:=Lib.hid (own_keep HO5.out (Keep.of_below hbb (fun _=>False)) (fun _ _ h=>h))
       have HBW:=Lib.hid (bl_t hb5.out hbb)
       clear hb9 hbb)
     |(at_builtin
       refine wpList_append_any _ rfl _ _ _ rfl w.heap.size 111 i0 (.agg #[.int .i64 0,.string ⟨#[]⟩]) 2 24 Tryz.underlying65 hi hz0 hz1 hz2 rfl (by decide) (.slice Ao m qo) m (pcCs L) rfl
        (HO9.out.alloc _) (w9.heap.size + 1) (some ⟨w9.heap.size,0,none⟩) 1 1 [.int .i64 ix,.string s8] rfl (reads_two _ _ _ _) (by simp [Value.oneCell']) (by unfold maxLen; omega) (by omega) (by have:=HBW.out.size; simp; omega) ?_
       intro v7 w10 hown7 hg7 hat7
       have HB10:=Lib.hid ((HBW.out.alloc HBW.out.size (.cells #[.int .i64 ix,.string s8] 111)).grown hg7 (by have:=HBW.out.size; simp; omega) (fun k hk=>(HO9.out.lt k hk).1))
       have HO10:=Lib.hid hown7
       clear hown7 hg7 hat7))
    go_roundw
    case rel=>exact ⟨j + 1,by omega,by go_num,HB10.out,Lib.hid (by
     rw [HE.out,HZP.out,List.length_append,HM.out,pcCs_append]
     exact HO10.out)⟩
    case measure=>show n - Int.toNat ((j : Int) + 1) < n - Int.toNat (j : Int); omega
def punchTo (size off m : Int) : Int:=min off size + min m (size - min off size)
def punchS (size off m : Int) (ps : List (Int × ByteArray)) : List (Int × ByteArray):=zerS (min off size) (punchTo size off m) (fun ix=>decide (min off size ≤ ix * 64) && decide (min size ((ix + 1) * 64) ≤ punchTo size off m) && decide (min off size < punchTo size off m)) ps
def PuEnds (w : World) (size off m : Int) (ps : List (Int × ByteArray)) (e : Ending) (w' : World) : Prop:=
 (¬ checkP size ps ∧ e = .returned (.tuple #[.slice none 0 0,.int .i64 21])) ∨ (checkP size ps ∧ (off < 0 ∨ m < 0) ∧ e = .returned (.tuple #[.slice none 0 0,.int .i64 1])) ∨
 (checkP size ps ∧ (0 ≤ off ∧ 0 ≤ m) ∧ ∃ v,e = .returned (.tuple #[v,.int .i64 0]) ∧ w'.ownsRow w.heap.size 111 2 v (punchS size off m ps).length (pcCs (punchS size off m ps)))
set_option maxRecDepth 100000 in
set_option maxHeartbeats 4000000 in
theorem sp_punch {w : World} {A : Option Addr} {n c : Nat} {ps : List (Int × ByteArray)} (size off m : Int) (hR : RdP w A n ps) (hn : n ≤ 1099511627776) :
 Calls Tryz.prog 115 #[.slice A n c,.int .i64 size,.int .i64 off,.int .i64 m] w fun e w'=>PuEnds w size off m ps e w' ∧ Below w.heap.size w w':=by
 have hb0 : Below w.heap.size w ((w.alloc (.cells #[.int .i64 size] 3)).alloc (.cells #[.int .i64 off] 3)):=((Below.refl _ _).alloc (Nat.le_refl _) _).alloc (by simp) _
 have hS:=(Blk.new w 3 #[.int .i64 size]).alloc (.cells #[.int .i64 off] 3)
 have hO:=Blk.new (w.alloc (.cells #[.int .i64 size] 3)) 3 #[.int .i64 off]
 have e1 : (w.alloc (.cells #[.int .i64 size] 3)).heap.size = w.heap.size + 1:=by simp
 rw [e1] at hO
 clear e1
 go_enter Tryz.func115,Tryz.ntmps115
 go_upto_region 1 with fail
 generalize (w.alloc (.cells #[.int .i64 size] 3)).alloc (.cells #[.int .i64 off] 3) = w1 at *
 have hC:=Lib.hid (sp_check (w:=w1) (c:=c) size (hR.below hb0) (by omega))
 have s1 : w1.cell? ⟨w.heap.size,0,none⟩ = some (.int .i64 size):=hS.cell 0
 have o1 : w1.cell? ⟨w.heap.size + 1,0,none⟩ = some (.int .i64 off):=hO.cell 0
 have HR:=Lib.hid hR
 have HB0:=Lib.hid hb0
 have HS:=Lib.hid hS
 have HO:=Lib.hid hO
 clear hR hb0 hS hO
 by_cases hck : checkP size ps
 case neg=>
  have HY : Hid (∀ w',PuEnds w size off m ps (.returned (.tuple #[.slice none 0 0,.int .i64 21])) w'):=Lib.hid fun w'=>.inl ⟨hck,rfl⟩
  have HK:=Lib.hid hck
  clear hck
  go_wp2_with (go_at_call 100; refine hC.out.mono ?_; rintro e w2 ⟨hce,hb2⟩; obtain rfl : e = .returned (.int .i64 21):=(hce.resolve_left (fun h=>HK.out h.1)).2; have HB2:=Lib.hid (bl_t HB0.out hb2); clear hce hb2)
  go_ret2
  exact ⟨HY.out _,HB2.out⟩
 have HK:=Lib.hid hck
 have hbd:=check_bounds hck
 have hz0:=hck.1
 have hz1:=hck.2.1
 clear hck
 by_cases hm1 : off < 0 ∨ m < 0
 ·have HY : Hid (∀ w',PuEnds w size off m ps (.returned (.tuple #[.slice none 0 0,.int .i64 1])) w'):=Lib.hid fun w'=>.inr (.inl ⟨HK.out,hm1,rfl⟩)
  by_cases ho : off < 0
  ·clear hm1
   go_wp2_with (go_at_call 100; refine hC.out.mono ?_; rintro e w2 ⟨hce,hb2⟩; obtain rfl : e = .returned (.int .i64 0):=(hce.resolve_right (fun h=>h.1 HK.out)).2; have HB2:=Lib.hid (bl_t HB0.out hb2); have s2:=keepc' hb2 s1; have o2:=keepc' hb2 o1; clear hce hb2)
   go_ret2
   exact ⟨HY.out _,HB2.out⟩
  ·have hm : m < 0:=by omega
   have ho' : 0 ≤ off:=by omega
   clear hm1
   go_wp2_with (go_at_call 100; refine hC.out.mono ?_; rintro e w2 ⟨hce,hb2⟩; obtain rfl : e = .returned (.int .i64 0):=(hce.resolve_right (fun h=>h.1 HK.out)).2; have HB2:=Lib.hid (bl_t HB0.out hb2); have s2:=keepc' hb2 s1; have o2:=keepc' hb2 o1; clear hce hb2)
   go_ret2
   exact ⟨HY.out _,HB2.out⟩
 have ho : 0 ≤ off:=by omega
 have hm : 0 ≤ m:=by omega
 clear hm1
 have HD : Hid (∀ W v w',Below w.heap.size w W → w'.ownsRow W.heap.size 111 2 v (punchS size off m ps).length (pcCs (punchS size off m ps)) → PuEnds w size off m ps (.returned (.tuple #[v,.int .i64 0])) w'):=Lib.hid fun W v w' hW ho'=>.inr (.inr ⟨HK.out,⟨ho,hm⟩,v,rfl,own_base ho' (fun k hk=>Nat.le_trans hW.size (ho'.lt k hk).1)⟩)
 have q0 : min off size ≤ size:=by omega
 have q1 : 0 ≤ min off size:=by omega
 have HP : Hid (punchS size off m ps = zerS (min off size) (punchTo size off m) (fun ix=>decide (min off size ≤ ix * 64) && decide (min size ((ix + 1) * 64) ≤ punchTo size off m) && decide (min off size < punchTo size off m)) ps):=Lib.hid rfl
 have ht : min off size + min m (size - min off size) = punchTo size off m:=rfl
 have ht2 : 0 ≤ punchTo size off m ∧ punchTo size off m ≤ size:=by unfold punchTo; omega
 generalize hof : min off size = off2 at *
 generalize punchTo size off m = te at *
 have q2 : wrap64 (size - off2) = size - off2:=by unfold wrap64; omega
 have q3 : wrap64 (off2 + min m (size - off2)) = te:=by rw [ht]; unfold wrap64; omega
 have q4 : wrap64 te = te:=by unfold wrap64; omega
 go_wp2_with (first
  |(go_at_call 100; refine hC.out.mono ?_; rintro e w2 ⟨hce,hb2⟩; obtain rfl : e = .returned (.int .i64 0):=(hce.resolve_right (fun h=>h.1 HK.out)).2
    have HB2:=Lib.hid (bl_t HB0.out hb2)
    have s2:=keepc' hb2 s1
    have o2:=keepc' hb2 o1
    have hO2:=blk_below HO.out hb2
    have f2:=hO2.frozen 0
    have hO3:=hO2.set_ 0 (.int .i64 off2)
    have o3 : (w2.setCell ⟨w.heap.size + 1,0,none⟩ (.int .i64 off2)).cell? ⟨w.heap.size + 1,0,none⟩ = some (.int .i64 off2):=hO3.cell 0
    have s3 : (w2.setCell ⟨w.heap.size + 1,0,none⟩ (.int .i64 off2)).cell? ⟨w.heap.size,0,none⟩ = some (.int .i64 size):=by rw [World.cell?_setCell_other]; exact s2; simp
    have hb3 : Below w.heap.size w (w2.setCell ⟨w.heap.size + 1,0,none⟩ (.int .i64 off2)):=HB2.out.setCell (p:=⟨w.heap.size + 1,0,none⟩) (by simp) _
    have HB3:=Lib.hid hb3
    have hsz3 : (w2.setCell ⟨w.heap.size + 1,0,none⟩ (.int .i64 off2)).heap.size = w2.heap.size:=by simp [World.setCell]
    have hlt3 : w.heap.size + 1 < w2.heap.size:=hO2.lt
    have hnew : Below (w2.setCell ⟨w.heap.size + 1,0,none⟩ (.int .i64 off2)).heap.size (w2.setCell ⟨w.heap.size + 1,0,none⟩ (.int .i64 off2)) ((w2.setCell ⟨w.heap.size + 1,0,none⟩ (.int .i64 off2)).alloc (.cells #[.int .i64 te] 3)):=(Below.refl _ _).alloc (Nat.le_refl _) _
    have hT4:=Blk.new (w2.setCell ⟨w.heap.size + 1,0,none⟩ (.int .i64 off2)) 3 #[.int .i64 te]
    rw [hsz3] at hT4
    have HB4:=Lib.hid (bl_t hb3 hnew)
    have HZ:=Lib.hid (sp_zeroedP (c:=c) off2 te _ (HR.out.below (bl_t hb3 hnew)) hn hbd ⟨q1,by omega⟩ ⟨by omega,by omega⟩ (gone_p (keepc' hnew o3) (keepc' hnew s3) (hT4.cell 0)))
    clear hce hb2 hO2 hO3 hb3 hnew hT4)
  |(go_at_call 184
    refine HZ.out.mono ?_
    rintro e w5 ⟨⟨v,rfl,hown⟩,hb5⟩
    have HE:=Lib.hid (HD.out _ v w5 HB4.out (by rw [HP.out]; exact hown))
    have HB5:=Lib.hid (bl_t HB4.out hb5)
    clear hown hb5))
 go_ret2
 exact ⟨HE.out,HB5.out⟩
end Go.Proofs.YtpboohfofodeeaaGreatDoor
