/- sparse: Ranges (conditions: none). -/
import Derived.Test.YtpboohfofodeeaaGreatDoorM13
import Derived.Test.YtpboohfofodeeaaGreatDoorM12
import Derived.Deep.WholeRow
import Derived.Lib.ConvBytes
import Derived.Laws.CopyOwn
namespace Go.Proofs.YtpboohfofodeeaaGreatDoor
open Go.RowKit Go.Maps
/-- Where pieces are: what is told so far, and what comes. -/
def rangesF (size : Int) : List (Int × Int) → List (Int × ByteArray) → List (Int × Int)
 | out,[]=>out
 | out,p :: t=>match out.getLast? with
  | some r=>if r.2 = p.1 * 64 then rangesF size (out.dropLast ++ [(r.1,p.1 * 64 + min 64 (size - p.1 * 64))]) t else rangesF size (out ++ [(p.1 * 64,p.1 * 64 + min 64 (size - p.1 * 64))]) t
  | none=>rangesF size (out ++ [(p.1 * 64,p.1 * 64 + min 64 (size - p.1 * 64))]) t
def rangesS (size : Int) (ps : List (Int × ByteArray)) : List (Int × Int):=rangesF size [] ps
def rgC (r : Int × Int) : List Value:=[.int .i64 r.1,.int .i64 r.2]
def rgCs (l : List (Int × Int)) : List Value:=l.flatMap rgC
theorem rgCs_snoc (l : List (Int × Int)) (r : Int × Int) : rgCs (l ++ [r]) = rgCs l ++ rgC r:=by simp [rgCs]
theorem rgCs_len (l : List (Int × Int)) : (rgCs l).length = l.length * 2:=by
 induction l with
 | nil=>rfl
 | cons x t ih=>simp [rgCs,rgC] at ih ⊢; omega
def RngEnds (w : World) (size : Int) (ps : List (Int × ByteArray)) (e : Ending) (w' : World) : Prop:=
 (¬ checkP size ps ∧ e = .returned (.tuple #[.slice none 0 0,.int .i64 21])) ∨
 (checkP size ps ∧ ∃ v,e = .returned (.tuple #[v,.int .i64 0]) ∧ w'.ownsRow w.heap.size 86 2 v (rangesS size ps).length (rgCs (rangesS size ps)))
theorem info_range : (Tryz.prog.info? 86).map (fun i=>(i.zero,i.size,i.bytes)) = some (some (.agg #[.int .i64 0,.int .i64 0]),2,16):=by kernel_rfl
theorem right_bounds {size : Int} : ∀ {ps : List (Int × ByteArray)} {last : Int},rightP size last ps → ∀ p ∈ ps,last < p.1 ∧ p.1 * 64 < size
 | [],_,_,p,hp=>by simp at hp
 | x :: t,last,h,p,hp=>by
  obtain ⟨⟨h1,h2,_⟩,h3⟩:=h
  rcases List.mem_cons.1 hp with rfl | hp
  ·exact ⟨h1,h2⟩
  ·have:=right_bounds h3 p hp
   exact ⟨by omega,this.2⟩
theorem rangesF_len (size : Int) : ∀ (ps : List (Int × ByteArray)) (out : List (Int × Int)),(rangesF size out ps).length ≤ out.length + ps.length
 | [],out=>by simp [rangesF]
 | p :: t,out=>by
  rw [rangesF]
  split
  ·rename_i r hr
   have h0 : out ≠ []:=by rintro rfl; simp at hr
   have hl : 0 < out.length:=List.length_pos_iff.2 h0
   split
   ·have:=rangesF_len size t (out.dropLast ++ [(r.1,p.1 * 64 + min 64 (size - p.1 * 64))])
    simp at this ⊢
    omega
   ·have:=rangesF_len size t (out ++ [(p.1 * 64,p.1 * 64 + min 64 (size - p.1 * 64))])
    simp at this ⊢
    omega
  ·have:=rangesF_len size t (out ++ [(p.1 * 64,p.1 * 64 + min 64 (size - p.1 * 64))])
   simp at this ⊢
   omega
theorem own_set {w : World} {base g n c size i : Nat} {e : TypeId} {xs : List Value} (h : w.ownsRow base e size (.slice (some ⟨g,0,none⟩) n c) n xs) (_hi : i < n * size) (v : Value) : (w.setCell ⟨g,i,none⟩ v).ownsRow base e size (.slice (some ⟨g,0,none⟩) n c) n (xs.set i v):=by
 rcases h.2 with ⟨h0,_⟩ | ⟨g',cap,cur,hv,hbase,hb,h1,h2,h3,h4⟩
 ·cases h0
 ·cases hv
  refine ⟨by rw [List.length_set]; exact h.1,.inr ⟨g,c,cur.setIfInBounds i v,rfl,hbase,Blk.set_ (cs:=cur) hb i v,h1,h2,by simp [h3],?_⟩⟩
  rw [Array.toList_setIfInBounds,← h4,List.take_set]
theorem reads_two (w : World) (u v : Value) (t : TypeId) : Reads (w.alloc (.cells #[u,v] t)) (w.heap.size + 1) 2 (some ⟨w.heap.size,0,none⟩) 1 [u,v]:=
 ⟨rfl,fun _=>⟨_,rfl,Nat.lt_succ_self _,World.news_of_block (heap_alloc_new w _)⟩⟩
theorem rgCs_set (l : List (Int × Int)) (r : Int × Int) (x : Int) : (rgCs (l ++ [r])).set (l.length * 2 + 1) (.int .i64 x) = rgCs (l ++ [(r.1,x)]):=by
 rw [rgCs_snoc,rgCs_snoc,List.set_append_right _ _ (by rw [rgCs_len]; omega),rgCs_len,show l.length * 2 + 1 - l.length * 2 = 1 by omega]
 rfl
set_option maxRecDepth 100000 in
set_option maxHeartbeats 4000000 in
theorem sp_ranges {w : World} {A : Option Addr} {n c : Nat} {ps : List (Int × ByteArray)} (size : Int) (hR : RdP w A n ps) (hn : n ≤ 1099511627776) :
 Calls Tryz.prog 112 #[.slice A n c,.int .i64 size] w fun e w'=>RngEnds w size ps e w' ∧ Below w.heap.size w w':=by
 obtain ⟨i0,hi,hz0,hz1,hz2⟩:=info_parts info_range
 have hC:=Lib.hid (sp_check (c:=c) size hR (by omega))
 have HR:=Lib.hid hR
 clear hR
 by_cases hck : checkP size ps
 case neg=>
  go_enter Tryz.func112,Tryz.ntmps112
  have HK:=Lib.hid hck
  clear hck
  go_wp2_with (go_at_call 100; refine hC.out.mono ?_; rintro e w2 ⟨hce,hb2⟩; obtain rfl : e = .returned (.int .i64 21):=(hce.resolve_left (fun h=>HK.out h.1)).2; have HB2:=Lib.hid hb2; clear hce hb2)
  go_ret2
  exact ⟨.inl ⟨HK.out,rfl⟩,HB2.out⟩
 have HK:=Lib.hid hck
 obtain ⟨hsz0,hsz1,hrp⟩:=hck
 have HP:=Lib.hid (right_bounds hrp)
 clear hrp
 go_enter Tryz.func112,Tryz.ntmps112
 go_wp2_with (go_at_call 100; refine hC.out.mono ?_; rintro e w2 ⟨hce,hb2⟩; obtain rfl : e = .returned (.int .i64 0):=(hce.resolve_right (fun h=>h.1 HK.out)).2; have HB2:=Lib.hid hb2; clear hce hb2)
 go_loopw [7,21] (fun v i wr=>∃ (j : Nat) (out : List (Int × Int)),j ≤ n ∧ i = .int .i64 j ∧ out.length ≤ j ∧ Below w2.heap.size w2 wr ∧ Hid (wr.ownsRow w2.heap.size 86 2 v out.length (rgCs out)) ∧ Hid (rangesF size out (ps.drop j) = rangesS size ps)) (fun _ i _=>n - (intOf i).toNat)
 case atStart=>exact ⟨0,[],by omega,rfl,by simp,Below.refl _ _,Lib.hid (World.ownsRow_nil _ _ _ _),Lib.hid rfl⟩
 case round=>
  obtain ⟨j,out,hj,rfl,hol,hb,HO,HE⟩:=hrel
  obtain ⟨Ao,qo,rfl⟩:=own_slice HO.out
  by_cases hlt : j < n
  case neg=>
   obtain rfl : j = n:=by omega
   have hE : out = rangesS size ps:=by
    have h:=HE.out
    rw [List.drop_eq_nil_of_le (by have:=HR.out.1; omega),rangesF] at h
    exact h
   have HY : Hid (RngEnds w size ps (.returned (.tuple #[.slice Ao out.length qo,.int .i64 0])) wr):=Lib.hid (.inr ⟨HK.out,_,rfl,by rw [← hE]; exact own_base HO.out (fun k hk=>Nat.le_trans HB2.out.size (HO.out.lt k hk).1)⟩)
   have HB:=Lib.hid (bl_t HB2.out hb)
   clear hb hE
   go_wp2
   go_ret2
   exact ⟨HY.out,HB.out⟩
  have HRw:=Lib.hid (HR.out.below (bl_t HB2.out hb))
  obtain ⟨g,o,hjl,rfl,hp0,hp1⟩:=HRw.out.at_ hlt
  obtain ⟨p,hpe⟩ : ∃ p,p = ps[j]:=⟨_,rfl⟩
  rw [← hpe] at hp0 hp1
  have hbd:=HP.out p (by rw [hpe]; exact List.getElem_mem hjl)
  have hd : ps.drop j = p :: ps.drop (j + 1):=by rw [List.drop_eq_getElem_cons hjl,hpe]
  have hE:=HE.out
  rw [hd] at hE
  obtain ⟨ix,dt⟩:=p
  simp only at hp0 hp1 hbd
  have HB:=Lib.hid hb
  have q1 : wrap64 (ix * 64) = ix * 64:=by unfold wrap64; omega
  have q2 : wrap64 (size - ix * 64) = size - ix * 64:=by unfold wrap64; omega
  have q3 : wrap64 (ix * 64 + min 64 (size - ix * 64)) = ix * 64 + min 64 (size - ix * 64):=by unfold wrap64; omega
  have HE2:=Lib.hid hE
  have HPE:=Lib.hid hpe
  have HD:=Lib.hid hd
  clear hE HE hb hpe hd
  go_upto_region 10 with fail
  have hb5:=Lib.hid (HB.out.alloc HB.out.size (.cells #[.int .i64 ix,.string dt] 111))
  have HO5:=Lib.hid (HO.out.alloc (.cells #[.int .i64 ix,.string dt] 111))
  have hs5 : (wr.alloc (.cells #[.int .i64 ix,.string dt] 111)).heap.size = wr.heap.size + 1:=by simp
  clear hp0 hp1 HO HRw
  generalize hr5 : wr.heap.size = s5 at *
  generalize wr.alloc (.cells #[.int .i64 ix,.string dt] 111) = w5 at *
  have hoc : out = [] ∨ ∃ l r,out = l ++ [r]:=by
   rcases List.eq_nil_or_concat out with h | ⟨l,r,h⟩
   ·exact .inl h
   ·exact .inr ⟨l,r,by rw [h,List.concat_eq_append]⟩
  rcases hoc with rfl | ⟨l,r,rfl⟩
  ·have hE : rangesF size [(ix * 64,ix * 64 + min 64 (size - ix * 64))] (ps.drop (j + 1)) = rangesS size ps:=by
    have h:=HE2.out
    rw [rangesF] at h
    exact h
   have hRD : Hid (Reads (w5.alloc (.cells #[.int .i64 (ix * 64),.int .i64 (ix * 64 + min 64 (size - ix * 64))] 86)) (s5 + 2) 2 (some ⟨s5 + 1,0,none⟩) 1 [.int .i64 (ix * 64),.int .i64 (ix * 64 + min 64 (size - ix * 64))]):=Lib.hid (by
    have h:=reads_two w5 (.int .i64 (ix * 64)) (.int .i64 (ix * 64 + min 64 (size - ix * 64))) 86
    rw [hs5] at h
    exact h)
   go_wp2_with (
    at_builtin
    refine wpList_append_any _ rfl _ _ _ rfl w2.heap.size 86 i0 (.agg #[.int .i64 0,.int .i64 0]) 2 16 Tryz.underlying32 hi hz0 hz1 hz2 rfl (by decide) (.slice Ao 0 qo) 0 [] rfl
     (HO5.out.alloc _) (s5 + 2) (some ⟨s5 + 1,0,none⟩) 1 1 [.int .i64 (ix * 64),.int .i64 (ix * 64 + min 64 (size - ix * 64))] rfl hRD.out (by simp [Value.oneCell']) (by unfold maxLen; omega) (by omega) (by have:=hb5.out.size; simp; omega) ?_
    intro v7 w7 hown7 hg7 hat7
    have HB7:=Lib.hid ((hb5.out.alloc hb5.out.size (.cells #[.int .i64 (ix * 64),.int .i64 (ix * 64 + min 64 (size - ix * 64))] 86)).grown hg7 (by have:=hb5.out.size; simp; omega) (fun k hk=>(HO5.out.lt k hk).1))
    have HO7:=Lib.hid hown7
    clear hown7 hg7 hat7)
   go_roundw
   case rel=>exact ⟨j + 1,[(ix * 64,ix * 64 + min 64 (size - ix * 64))],by omega,rfl,by simp,HB7.out,Lib.hid HO7.out,Lib.hid hE⟩
   case measure=>show n - Int.toNat ((j : Int) + 1) < n - Int.toNat (j : Int); omega
  ·have hlen : (l ++ [r]).length = l.length + 1:=by simp
   rw [hlen] at hol
   have HO5':=Lib.hid (by have h:=HO5.out; rw [hlen] at h; exact h : w5.ownsRow w2.heap.size 86 2 (.slice Ao (l.length + 1) qo) (l.length + 1) (rgCs (l ++ [r])))
   rw [hlen]
   clear HO5
   have HO5:=HO5'
   clear HO5'
   obtain ⟨go,cur,rfl,hgb⟩ : ∃ go cur,Ao = some ⟨go,0,none⟩ ∧ w5.heap[go]? = some (.cells cur 86 (0,0)):=by
    rcases HO5.out.2 with ⟨_,h0⟩ | ⟨g',cap,cur,hv,_,hb,_⟩
    ·omega
    ·cases hv
     exact ⟨g',cur,rfl,hb⟩
   have hcell : w5.cell? ⟨go,l.length * 2 + 1,none⟩ = some (.int .i64 r.2):=by
    have h:=HO5.out.cells (g:=go) rfl (l.length * 2 + 1) (.int .i64 r.2) (by rw [rgCs_snoc,List.getElem?_append_right (by rw [rgCs_len]; omega),rgCs_len,show l.length * 2 + 1 - l.length * 2 = 1 by omega]; rfl)
    simpa [Addr.add] using h
   have hfz : w5.frozen? ⟨go,l.length * 2 + 1,none⟩ = false:=by simp [World.frozen?,hgb]
   have q4 : wrap64 (((l.length + 1 : Nat) : Int) - 1) = l.length:=by unfold wrap64; omega
   have q5 : wrap64 (l.length : Int) = l.length:=by unfold wrap64; omega
   have hE:=HE2.out
   rw [rangesF,List.getLast?_concat] at hE
   simp only [List.dropLast_concat] at hE
   have HGB:=Lib.hid hgb
   clear hgb
   by_cases hj2 : r.2 = ix * 64
   ·have hj2' : (r.2 == ix * 64) = true:=by simpa using hj2
    rw [if_pos hj2] at hE
    have HE3:=Lib.hid hE
    have HJ:=Lib.hid hj2
    clear hE hj2
    clear hlen q5
    have hol2:=hol
    generalize hm : l.length = m at hcell hfz q4 hol2 HO5 ⊢
    have HM:=Lib.hid hm
    have q6 : wrap64 ((m : Int) + 1 - 1) = m:=by unfold wrap64; omega
    clear hm hol q4
    go_wp2
    go_roundw
    case rel=>exact ⟨j + 1,l ++ [(r.1,ix * 64 + min 64 (size - ix * 64))],by omega,rfl,by rw [List.length_append,HM.out]; simp; omega,hb5.out.setCell (p:=⟨go,m * 2 + 1,none⟩) (HO5.out.lt go rfl).1 _,Lib.hid (by
     have h:=own_set HO5.out (i:=m * 2 + 1) (by omega) (.int .i64 (ix * 64 + min 64 (size - ix * 64)))
     rw [← HM.out,rgCs_set] at h
     rw [show (l ++ [(r.1,ix * 64 + min 64 (size - ix * 64))]).length = l.length + 1 by simp,← HM.out]
     exact h),HE3⟩
    case measure=>show n - Int.toNat ((j : Int) + 1) < n - Int.toNat (j : Int); omega
   ·have hj2' : (r.2 == ix * 64) = false:=by simpa using hj2
    rw [if_neg hj2] at hE
    have HE3:=Lib.hid hE
    clear hE hj2
    clear hlen q5
    have hol2:=hol
    generalize hm : l.length = m at hcell hfz q4 hol2 HO5 ⊢
    have HM:=Lib.hid hm
    have q6 : wrap64 ((m : Int) + 1 - 1) = m:=by unfold wrap64; omega
    clear hm hol q4
    have hRD : Hid (Reads (w5.alloc (.cells #[.int .i64 (ix * 64),.int .i64 (ix * 64 + min 64 (size - ix * 64))] 86)) (s5 + 2) 2 (some ⟨s5 + 1,0,none⟩) 1 [.int .i64 (ix * 64),.int .i64 (ix * 64 + min 64 (size - ix * 64))]):=Lib.hid (by
     have h:=reads_two w5 (.int .i64 (ix * 64)) (.int .i64 (ix * 64 + min 64 (size - ix * 64))) 86
     rw [hs5] at h
     exact h)
    go_wp2_with (
     at_builtin
     refine wpList_append_any _ rfl _ _ _ rfl w2.heap.size 86 i0 (.agg #[.int .i64 0,.int .i64 0]) 2 16 Tryz.underlying32 hi hz0 hz1 hz2 rfl (by decide) (.slice (some ⟨go,0,none⟩) (m + 1) qo) (m + 1) (rgCs (l ++ [r])) rfl
      (HO5.out.alloc _) (s5 + 2) (some ⟨s5 + 1,0,none⟩) 1 1 [.int .i64 (ix * 64),.int .i64 (ix * 64 + min 64 (size - ix * 64))] rfl hRD.out (by simp [Value.oneCell']) (by unfold maxLen; omega) (by omega) (by have:=hb5.out.size; simp; omega) ?_
     intro v7 w7 hown7 hg7 hat7
     have HB7:=Lib.hid ((hb5.out.alloc hb5.out.size (.cells #[.int .i64 (ix * 64),.int .i64 (ix * 64 + min 64 (size - ix * 64))] 86)).grown hg7 (by have:=hb5.out.size; simp; omega) (fun k hk=>(HO5.out.lt k hk).1))
     have HO7:=Lib.hid hown7
     clear hown7 hg7 hat7)
    go_roundw
    case rel=>exact ⟨j + 1,(l ++ [r]) ++ [(ix * 64,ix * 64 + min 64 (size - ix * 64))],by omega,rfl,by have:=HM.out; simp; omega,HB7.out,Lib.hid (by
     have h:=HO7.out
     rw [show ((l ++ [r]) ++ [(ix * 64,ix * 64 + min 64 (size - ix * 64))]).length = m + 1 + 1 by rw [← HM.out]; simp,rgCs_snoc (l ++ [r])]
     exact h),HE3⟩
    case measure=>show n - Int.toNat ((j : Int) + 1) < n - Int.toNat (j : Int); omega
end Go.Proofs.YtpboohfofodeeaaGreatDoor
/- sparse: a piece's bytes as an array: of, piece (conditions: none). -/
namespace Go.Proofs.YtpboohfofodeeaaGreatDoor
open Go.RowKit Go.Maps
/-- A text's bytes as numbers. -/
def numsOf (s : ByteArray) : List Int:=s.data.toList.map fun b=>(b.toNat : Int)
theorem numsOf_len (s : ByteArray) : (numsOf s).length = s.size:=by unfold numsOf; rw [List.length_map,Array.length_toList]; rfl
theorem numsOf_lt {s : ByteArray} {x : Int} (h : x ∈ numsOf s) : 0 ≤ x ∧ x < 256:=by
 unfold numsOf at h
 obtain ⟨b,_,rfl⟩:=List.mem_map.1 h
 have:=UInt8.toNat_lt b
 omega
theorem strOfNums_numsOf (s : ByteArray) : strOfNums (numsOf s) = s:=by
 unfold strOfNums numsOf
 rw [List.map_map]
 have : (s.data.toList.map ((fun n : Int=>UInt8.ofNat n.toNat) ∘ fun b : UInt8=>(b.toNat : Int))) = s.data.toList:=by
  conv=>rhs; rw [← List.map_id s.data.toList]
  refine List.map_congr_left fun b _=>?_
  simp
 rw [this]
theorem numsOf_strOfNums {l : List Int} (h : ∀ x ∈ l,0 ≤ x ∧ x < 256) : numsOf (strOfNums l) = l:=by
 unfold numsOf
 rw [strOfNums_data,List.map_map]
 conv=>rhs; rw [← List.map_id l]
 refine List.map_congr_left fun x hx=>?_
 obtain ⟨h0,h1⟩:=h x hx
 show ((UInt8.ofNat x.toNat).toNat : Int) = x
 rw [UInt8.toNat_ofNat',Nat.mod_eq_of_lt (by omega)]
 omega
theorem u8s_one (l : List Int) : (u8s l).all (·.oneCell') = true:=by
 rw [Array.all_eq_true_iff_forall_mem]
 intro v hv
 simp only [u8s,List.mem_toArray,List.mem_map] at hv
 obtain ⟨x,_,rfl⟩:=hv
 rfl
theorem blk_load {P : Program} {w : World} {g : Nat} {t : TypeId} {cs : Array Value} (h : Blk w g t cs) {n : Nat} (hn : cs.size = n) : (loadCellsFrom ⟨g,0,none⟩ 0 n #[]).run P w = .ok cs w:=by
 subst hn
 have:=run_loadCells_list (P:=P) w ⟨g,0,none⟩ cs.toList (fun j v hv=>by
  have hadd : (⟨g,0,none⟩ : Addr).add j = ⟨g,j,none⟩:=by unfold Addr.add; split <;> simp_all
  rw [hadd,h.cell]
  simpa using hv)
 simpa [loadCells] using this
theorem blk_store {P : Program} {w : World} {g : Nat} {t : TypeId} {cs cs' : Array Value} (h : Blk w g t cs) (hn : cs'.size = cs.size) (h1 : cs'.all (·.oneCell') = true) : (storeCells ⟨g,0,none⟩ cs'.toList 0).run P w = .ok () (w.setRow g cs'):=by
 have:=run_storeCells_from (P:=P) g t cs'.toList 0 cs w h (by simp [hn]) (fun v hv=>(Array.all_eq_true_iff_forall_mem.1 h1) v (by simpa using hv))
 simpa [hn] using this
theorem Blk.row {w : World} {g : Nat} {t : TypeId} {cs cs' : Array Value} (h : Blk w g t cs) : Blk (w.setRow g cs') g t cs':=setRow_heap w g cs cs' t _ h
theorem loads_at {P : Program} {w : World} {g : Nat} {cs : Array Value} {n : Nat} (hn : cs.size = n) (hc : ∀ j,j < n → w.cell? ⟨g,j,none⟩ = cs[j]?) : (loadCellsFrom ⟨g,0,none⟩ 0 n #[]).run P w = .ok cs w:=by
 subst hn
 have:=run_loadCells_list (P:=P) w ⟨g,0,none⟩ cs.toList (fun j v hv=>by
  have hadd : (⟨g,0,none⟩ : Addr).add j = ⟨g,j,none⟩:=by unfold Addr.add; split <;> simp_all
  have hj : j < cs.size:=by simpa using (List.getElem?_eq_some_iff.1 hv).1
  rw [hadd,hc j hj]
  simpa using hv)
 simpa [loadCells] using this
theorem bytesWorld_below (w : World) (e : TypeId) (s : ByteArray) : Below w.heap.size w (Lib.bytesWorld w e s):=⟨rfl,rfl,rfl,by rw [Lib.bytesWorld_size]; omega,fun k hk=>Lib.bytesWorld_at_old w e s k hk⟩
theorem numsOf_at (s : ByteArray) (j : Nat) (h : j < s.size) : (u8s (numsOf s))[j]? = some (.int .u8 (s.data.toList.getD j 0).toNat):=by
 rw [u8s_at _ j (by rw [numsOf_len]; exact h)]
 unfold numsOf
 have h' : j < s.data.toList.length:=by rw [Array.length_toList]; exact h
 simp [List.getD,List.getElem?_map,List.getElem?_eq_getElem h']
/-- 64 bytes of zeros. -/
def Z64 : Array Value:=u8s (List.replicate 64 0)
theorem z64 : (#[Value.int .u8 0,Value.int .u8 0,Value.int .u8 0,Value.int .u8 0,Value.int .u8 0,Value.int .u8 0,Value.int .u8 0,Value.int .u8 0,Value.int .u8 0,Value.int .u8 0,Value.int .u8 0,Value.int .u8 0,Value.int .u8 0,Value.int .u8 0,Value.int .u8 0,Value.int .u8 0,Value.int .u8 0,Value.int .u8 0,Value.int .u8 0,Value.int .u8 0,Value.int .u8 0,Value.int .u8 0,Value.int .u8 0,Value.int .u8 0,Value.int .u8 0,Value.int .u8 0,Value.int .u8 0,Value.int .u8 0,Value.int .u8 0,Value.int .u8 0,Value.int .u8 0,Value.int .u8 0,Value.int .u8 0,Value.int .u8 0,Value.int .u8 0,Value.int .u8 0,Value.int .u8 0,Value.int .u8 0,Value.int .u8 0,Value.int .u8 0,Value.int .u8 0,Value.int .u8 0,Value.int .u8 0,Value.int .u8 0,Value.int .u8 0,Value.int .u8 0,Value.int .u8 0,Value.int .u8 0,Value.int .u8 0,Value.int .u8 0,Value.int .u8 0,Value.int .u8 0,Value.int .u8 0,Value.int .u8 0,Value.int .u8 0,Value.int .u8 0,Value.int .u8 0,Value.int .u8 0,Value.int .u8 0,Value.int .u8 0,Value.int .u8 0,Value.int .u8 0,Value.int .u8 0,Value.int .u8 0] : Array Value) = Z64:=by rfl
theorem z64_size : Z64.size = 64:=by rfl
theorem wpList_load_eq {P : Program} {w : World} {ops : Array Oper} {rest : List Oper} {o : Oper} {a : Act} {Q : Exit → Act → World → Prop} (hgd : o.guard = none) (t : TypeId) (x : Operand) (ho : o.op = .load t x) (y : Value) (hx : a.eval x = y) {v : Value}
 (hr : (Instr.loadAt t y).run P w = .ok v w) (h : wpList P ops Q rest (a.put o.dst v) w) : wpList P ops Q (o :: rest) a w:=
 wpList_plain hgd fun K hK=>by
  unfold Oper.wp
  simp [execOp,ho,hx,hr,Result.andThen]
  exact hK _ _ h
theorem wpList_store_eq {P : Program} {w w' : World} {ops : Array Oper} {rest : List Oper} {o : Oper} {a : Act} {Q : Exit → Act → World → Prop} (hgd : o.guard = none) (t : TypeId) (x u : Operand) (ho : o.op = .store t x u) (y z : Value) (hx : a.eval x = y) (hu : a.eval u = z)
 (hr : (Instr.storeAt t y z).run P w = .ok () w') (h : wpList P ops Q rest (a.put o.dst undef) w') : wpList P ops Q (o :: rest) a w:=
 wpList_plain hgd fun K hK=>by
  unfold Oper.wp
  simp [execOp,ho,hx,hu,hr,Result.andThen]
  exact hK _ _ h
theorem bytes_info : (Tryz.prog.info? 251).map (·.size) = some 64:=by kernel_rfl
theorem loadAt64 {w : World} {g : Nat} {cs : Array Value} (_hn : cs.size = 64) (hl : (loadCellsFrom ⟨g,0,none⟩ 0 64 #[]).run Tryz.prog w = .ok cs w) : (Instr.loadAt 251 (.pointer (some ⟨g,0,none⟩))).run Tryz.prog w = .ok (.agg cs) w:=by
 have hq:=bytes_info
 cases hi : Tryz.prog.info? 251 with
 | none=>rw [hi] at hq; cases hq
 | some i=>
  rw [hi] at hq
  have hs : i.size = 64:=by simpa using hq
  simp [Instr.loadAt,Instr.sureAddr,loadVar,isAgg,run_underlying Tryz.underlying251,sizeOf,typeInfo,hi,hs,loadCells,hl]
theorem loadVar64 {w : World} {g : Nat} {cs : Array Value} (_hn : cs.size = 64) (hl : (loadCellsFrom ⟨g,0,none⟩ 0 64 #[]).run Tryz.prog w = .ok cs w) : (loadVar 251 ⟨g,0,none⟩).run Tryz.prog w = .ok (.agg cs) w:=by
 have hq:=bytes_info
 cases hi : Tryz.prog.info? 251 with
 | none=>rw [hi] at hq; cases hq
 | some i=>
  rw [hi] at hq
  have hs : i.size = 64:=by simpa using hq
  simp [loadVar,isAgg,run_underlying Tryz.underlying251,sizeOf,typeInfo,hi,hs,loadCells,hl]
theorem of_results {tm : Array Value} {W : World} {b : Nat} {cs : Array Value} (h2 : tm.getD 2 undef = .pointer (some ⟨b,0,none⟩)) (hl : (loadVar 251 ⟨b,0,none⟩).run Tryz.prog W = .ok (.agg cs) W) :
 (results Tryz.f181 tm).run Tryz.prog W = .ok (.agg cs) W:=by
 rw [Array.getD_eq_getD_getElem?] at h2
 simp [results,Tryz.results181,asAddr,h2,hl]
theorem storeAt64 {w w' : World} {g : Nat} {cs : Array Value} (hn : cs.size = 64) (hl : (storeCells ⟨g,0,none⟩ cs.toList 0).run Tryz.prog w = .ok () w') : (Instr.storeAt 251 (.pointer (some ⟨g,0,none⟩)) (.agg cs)).run Tryz.prog w = .ok () w':=by
 have hq:=bytes_info
 cases hi : Tryz.prog.info? 251 with
 | none=>rw [hi] at hq; cases hq
 | some i=>
  rw [hi] at hq
  have hs : i.size = 64:=by simpa using hq
  simp [Instr.storeAt,Instr.sureAddr,storeVar,sizeOf,typeInfo,hi,hs,Value.cells,hn,hl]
theorem run_arrayAt64 (a : Option Addr) (q : Nat) (w : World) : (Instr.arrayAt 251 (.slice a 64 q)).run Tryz.prog w = .ok (.pointer a) w:=by
 simp [Instr.arrayAt,run_underlying Tryz.underlying251]
set_option maxRecDepth 100000 in
theorem sp_of (ix : Int) (d : ByteArray) (w : World) (hd : d.size = 64) :
 Calls Tryz.prog 181 #[.agg #[.int .i64 ix,.string d]] w fun e w'=>e = .returned (.agg (u8s (numsOf d))) ∧ Below w.heap.size w w':=by
 have hz : (u8s (numsOf d)).size = 64:=by rw [u8s_size,numsOf_len,hd]
 have hb0 : Below w.heap.size w ((w.alloc (.cells #[.int .i64 ix,.string d] 111)).alloc (.cells Z64 251)):=((Below.refl _ _).alloc (Nat.le_refl _) _).alloc (by simp) _
 have hP:=(Blk.new w 111 #[.int .i64 ix,.string d]).alloc (.cells Z64 251)
 have hB:=Blk.new (w.alloc (.cells #[.int .i64 ix,.string d] 111)) 251 Z64
 have e1 : (w.alloc (.cells #[.int .i64 ix,.string d] 111)).heap.size = w.heap.size + 1:=by simp
 rw [e1] at hB
 clear e1
 go_enter Tryz.func181,Tryz.ntmps181
 go_upto_region 1 with fail
 rw [z64]
 generalize (w.alloc (.cells #[.int .i64 ix,.string d] 111)).alloc (.cells Z64 251) = w1 at *
 have c1 : w1.cell? ⟨w.heap.size,1,none⟩ = some (.string d):=hP.cell 1
 have hcv : (convert 9 195 (.string d)).run Tryz.prog w1 = .ok (.slice (some ⟨w1.heap.size,0,none⟩) d.size (grownCap w1 d.size 0 5)) (Lib.bytesWorld w1 5 d):=Lib.run_convert_string_bytes w1 _ _ _ d Tryz.underlying9 Tryz.underlying195 Tryz.underlying5
 have hb2:=bytesWorld_below w1 5 d
 have hl : (loadCellsFrom ⟨w1.heap.size,0,none⟩ 0 64 #[]).run Tryz.prog (Lib.bytesWorld w1 5 d) = .ok (u8s (numsOf d)) (Lib.bytesWorld w1 5 d):=loads_at hz fun j hj=>by rw [Lib.bytesWorld_cell _ _ _ j (by omega),numsOf_at d j (by omega)]
 rw [hd] at hcv
 have hB2:=blk_below hB hb2
 have HB2:=Lib.hid (bl_t hb0 hb2)
 clear hP hB hb0 hb2
 generalize Lib.bytesWorld w1 5 d = w2 at *
 generalize grownCap w1 64 0 5 = q at *
 have hst:=blk_store (P:=Tryz.prog) hB2 (cs':=u8s (numsOf d)) (by rw [hz,z64_size]) (u8s_one _)
 have hB3:=hB2.row (cs':=u8s (numsOf d))
 have hl3:=blk_load (P:=Tryz.prog) hB3 hz
 have hat:=run_arrayAt64 (some ⟨w1.heap.size,0,none⟩) q w2
 have HL:=Lib.hid (loadAt64 hz hl)
 have HS:=Lib.hid (storeAt64 hz hst)
 have HL3:=Lib.hid (loadAt64 hz hl3)
 clear hl hst hl3
 go_wp2_with (first
  |(refine wpList_load_eq rfl 251 (.tmp 6) rfl _ rfl HL.out ?_)
  |(refine wpList_store_eq rfl 251 (.tmp 2) (.tmp 7) rfl _ _ rfl rfl HS.out ?_))
 refine bodyPost_ret (v:=.agg (u8s (numsOf d))) ?_ rfl ⟨rfl,?_⟩
 ·exact of_results rfl (loadVar64 hz (blk_load hB3 hz))
 ·exact HB2.out.trans (below_setRow (Below.refl _ _) (by omega) _)
/-- The piece of 64 bytes. -/
def pieceV (ix : Int) (l : List Int) : Value:=.agg #[.int .i64 ix,.string (strOfNums l)]
theorem piece_results {tm : Array Value} {W : World} {b : Nat} {x0 x1 : Value} (h2 : tm.getD 4 undef = .pointer (some ⟨b,0,none⟩)) (c0 : W.cell? ⟨b,0,none⟩ = some x0) (c1 : W.cell? ⟨b,1,none⟩ = some x1) :
 (results Tryz.f182 tm).run Tryz.prog W = .ok (.agg #[x0,x1]) W:=by
 rw [Array.getD_eq_getD_getElem?] at h2
 simp [results,Tryz.results182,go_sem, *]
set_option maxRecDepth 100000 in
theorem sp_piece (l : List Int) (ix : Int) (w : World) (hl : l.length = 64) :
 Calls Tryz.prog 182 #[.agg (u8s l),.int .i64 ix] w fun e w'=>e = .returned (.agg #[.int .i64 ix,.string (strOfNums l)]) ∧ Below w.heap.size w w':=by
 have hz : (u8s l).size = 64:=by rw [u8s_size,hl]
 have hb0 : Below w.heap.size w ((w.alloc (.cells (u8s l) 251)).alloc (.cells #[.int .i64 0,.string ⟨#[]⟩] 111)):=((Below.refl _ _).alloc (Nat.le_refl _) _).alloc (by simp) _
 have hB:=(Blk.new w 251 (u8s l)).alloc (.cells #[.int .i64 0,.string ⟨#[]⟩] 111)
 have hP:=Blk.new (w.alloc (.cells (u8s l) 251)) 111 #[.int .i64 0,.string ⟨#[]⟩]
 have e1 : (w.alloc (.cells (u8s l) 251)).heap.size = w.heap.size + 1:=by simp
 rw [e1] at hP
 clear e1
 obtain ⟨s,hs⟩ : ∃ s,s = strOfNums l:=⟨_,rfl⟩
 rw [← hs]
 go_enter Tryz.func182,Tryz.ntmps182
 go_upto_region 1 with fail
 generalize (w.alloc (.cells (u8s l) 251)).alloc (.cells #[.int .i64 0,.string ⟨#[]⟩] 111) = w1 at *
 have hcv:=run_convert_bytes_arg (P:=Tryz.prog) w1 195 5 Tryz.underlying195 Tryz.underlying5 w.heap.size 0 64 64 l hl (fun i hi=>by rw [Nat.zero_add]; exact (hB.cell _).trans (u8s_at _ _ (by omega))) 9 Tryz.underlying9
 have p0 : w1.cell? ⟨w.heap.size + 1,0,none⟩ = some (.int .i64 0):=hP.cell 0
 have p1 : w1.cell? ⟨w.heap.size + 1,1,none⟩ = some (.string ⟨#[]⟩):=hP.cell 1
 have f0:=hP.frozen 0
 have f1:=hP.frozen 1
 rw [← hs] at hcv
 clear hs
 have HB0:=Lib.hid hb0
 have hB2:=(hP.set_ 0 (.int .i64 ix)).set_ 1 (.string s)
 have q0 : ((w1.setCell ⟨w.heap.size + 1,0,none⟩ (.int .i64 ix)).setCell ⟨w.heap.size + 1,1,none⟩ (.string s)).cell? ⟨w.heap.size + 1,0,none⟩ = some (.int .i64 ix):=hB2.cell 0
 have q1 : ((w1.setCell ⟨w.heap.size + 1,0,none⟩ (.int .i64 ix)).setCell ⟨w.heap.size + 1,1,none⟩ (.string s)).cell? ⟨w.heap.size + 1,1,none⟩ = some (.string s):=hB2.cell 1
 have hb3 : Below w.heap.size w ((w1.setCell ⟨w.heap.size + 1,0,none⟩ (.int .i64 ix)).setCell ⟨w.heap.size + 1,1,none⟩ (.string s)):=(HB0.out.setCell (p:=⟨w.heap.size + 1,0,none⟩) (by simp) _).setCell (p:=⟨w.heap.size + 1,1,none⟩) (by simp) _
 have HB3:=Lib.hid hb3
 clear hB hP hb0 hB2 hb3 hz
 go_wp2
 refine bodyPost_ret (v:=.agg #[.int .i64 ix,.string s]) ?_ rfl ⟨rfl,HB3.out⟩
 exact piece_results rfl q0 q1
end Go.Proofs.YtpboohfofodeeaaGreatDoor
