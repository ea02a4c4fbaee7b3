/- sparse: Read (conditions: none). -/
import Derived.Test.YtpboohfofodeeaaGreatDoorM24
namespace Go.Proofs.YtpboohfofodeeaaGreatDoor
open Go.RowKit Go.Maps
/-- The byte at a place. -/
def byteAt (ps : List (Int × ByteArray)) (place : Int) : Int:=match ps.find? (fun p=>p.1 == place / 64) with
 | some p=>(numsOf p.2).getD (place % 64).toNat 0
 | none=>0
theorem byteAt_none {ps : List (Int × ByteArray)} {place : Int} (h : ∀ p ∈ ps,p.1 ≠ place / 64) : byteAt ps place = 0:=by
 have : ps.find? (fun p=>p.1 == place / 64) = none:=List.find?_eq_none.2 fun p hp=>by simpa using h p hp
 unfold byteAt
 rw [this]
theorem byteAt_append {l r : List (Int × ByteArray)} {place : Int} (h : ∀ p ∈ r,p.1 ≠ place / 64) : byteAt (l ++ r) place = byteAt l place:=by
 unfold byteAt
 rw [List.find?_append]
 have : r.find? (fun p=>p.1 == place / 64) = none:=List.find?_eq_none.2 fun p hp=>by simpa using h p hp
 rw [this]
 cases l.find? (fun p=>p.1 == place / 64) <;> rfl
theorem byteAt_snoc {l : List (Int × ByteArray)} {ix place : Int} {d : ByteArray} (h : ∀ p ∈ l,p.1 ≠ ix) : byteAt (l ++ [(ix,d)]) place = if place / 64 = ix then (numsOf d).getD (place % 64).toNat 0 else byteAt l place:=by
 by_cases e : place / 64 = ix
 ·rw [if_pos e]
  unfold byteAt
  rw [List.find?_append]
  have : l.find? (fun p=>p.1 == place / 64) = none:=List.find?_eq_none.2 fun p hp=>by simpa [e] using h p hp
  rw [this]
  simp [e]
 ·rw [if_neg e]
  exact byteAt_append (fun p hp=>by simp at hp; rw [hp]; exact fun h=>e h.symm)
theorem getD_of {l : List Int} {k : Nat} (h : k < l.length) : l[k]? = some (l.getD k 0):=by
 rw [List.getElem?_eq_getElem h]; simp [List.getD,List.getElem?_eq_getElem h]
theorem splice_at {l cs : List Int} {o : Nat} (hf : o + cs.length ≤ l.length) (k : Nat) : (splice l o cs)[k]? = if o ≤ k ∧ k < o + cs.length then cs[k - o]? else l[k]?:=by
 unfold splice
 have ht : (l.take o).length = o:=by rw [List.length_take]; omega
 by_cases h1 : k < o
 ·rw [List.getElem?_append_left (by omega),List.getElem?_take_of_lt h1,if_neg (by omega)]
 ·rw [List.getElem?_append_right (by omega),ht]
  by_cases h2 : k < o + cs.length
  ·rw [List.getElem?_append_left (by omega),if_pos (by omega)]
  ·rw [List.getElem?_append_right (by omega),if_neg (by omega),List.getElem?_drop]
   congr 1
   omega
/-- So many bytes from a place on. -/
def readL (m : Nat) (off : Int) (ps : List (Int × ByteArray)) : List Int:=(List.range m).map fun k : Nat=>byteAt ps (off + k)
theorem readL_len (m : Nat) (off : Int) (ps : List (Int × ByteArray)) : (readL m off ps).length = m:=by simp [readL]
theorem readL_at (m : Nat) (off : Int) (ps : List (Int × ByteArray)) (k : Nat) (h : k < m) : (readL m off ps)[k]? = some (byteAt ps (off + k)):=by
 unfold readL
 rw [List.getElem?_map,List.getElem?_range h]
 rfl
theorem readL_neg {m fr : Nat} {off ix : Int} {l : List (Int × ByteArray)} {d : ByteArray} (hd : d.size = 64) (h : ∀ p ∈ l,p.1 ≠ ix) (hfr : ix * 64 - off = -(fr : Int)) (h64 : fr < 64) :
 splice (readL m off l) 0 (((numsOf d).drop fr).take (min (64 - fr) m)) = readL m off (l ++ [(ix,d)]):=by
 have hn : (numsOf d).length = 64:=by rw [numsOf_len,hd]
 have hc : (((numsOf d).drop fr).take (min (64 - fr) m)).length = min (64 - fr) m:=by rw [List.length_take,List.length_drop,hn]; omega
 refine List.ext_getElem? fun k=>?_
 rw [splice_at (by rw [hc,readL_len]; omega),hc]
 by_cases hk : k < m
 ·rw [readL_at _ _ _ _ hk,readL_at _ _ _ _ hk,byteAt_snoc h]
  by_cases h1 : 0 ≤ k ∧ k < 0 + min (64 - fr) m
  ·rw [if_pos h1,if_pos (by omega),List.getElem?_take_of_lt (by omega),List.getElem?_drop,getD_of (by omega)]
   congr 2
   omega
  ·rw [if_neg h1,if_neg (by omega)]
 ·rw [if_neg (by omega),List.getElem?_eq_none (by rw [readL_len]; omega),List.getElem?_eq_none (by rw [readL_len]; omega)]
theorem readL_pos {m fr : Nat} {off ix : Int} {l : List (Int × ByteArray)} {d : ByteArray} (hd : d.size = 64) (h : ∀ p ∈ l,p.1 ≠ ix) (hfr : ix * 64 - off = (fr : Int)) (h64 : fr < m) :
 splice (readL m off l) fr ((numsOf d).take (min 64 (m - fr))) = readL m off (l ++ [(ix,d)]):=by
 have hn : (numsOf d).length = 64:=by rw [numsOf_len,hd]
 have hc : ((numsOf d).take (min 64 (m - fr))).length = min 64 (m - fr):=by rw [List.length_take,hn]; omega
 refine List.ext_getElem? fun k=>?_
 rw [splice_at (by rw [hc,readL_len]; omega),hc]
 by_cases hk : k < m
 ·rw [readL_at _ _ _ _ hk,readL_at _ _ _ _ hk,byteAt_snoc h]
  by_cases h1 : fr ≤ k ∧ k < fr + min 64 (m - fr)
  ·rw [if_pos h1,if_pos (by omega),List.getElem?_take_of_lt (by omega),getD_of (by omega)]
   congr 2
   omega
  ·rw [if_neg h1,if_neg (by omega)]
 ·rw [if_neg (by omega),List.getElem?_eq_none (by rw [readL_len]; omega),List.getElem?_eq_none (by rw [readL_len]; omega)]
theorem readL_all {m : Nat} {off : Int} {l r : List (Int × ByteArray)} (h : ∀ p ∈ r,(m : Int) ≤ p.1 * 64 - off) : readL m off l = readL m off (l ++ r):=by
 refine List.ext_getElem? fun k=>?_
 by_cases hk : k < m
 ·rw [readL_at _ _ _ _ hk,readL_at _ _ _ _ hk,byteAt_append (fun p hp=>by have:=h p hp; omega)]
 ·rw [List.getElem?_eq_none (by rw [readL_len]; omega),List.getElem?_eq_none (by rw [readL_len]; omega)]
theorem readL_none {m : Nat} {off : Int} {l : List (Int × ByteArray)} (h : ∀ p ∈ l,p.1 < off / 64) : readL m off l = List.replicate m 0:=by
 refine List.ext_getElem? fun k=>?_
 by_cases hk : k < m
 ·rw [readL_at _ _ _ _ hk,byteAt_none (fun p hp=>by have:=h p hp; omega)]
  simp [hk]
 ·rw [List.getElem?_eq_none (by rw [readL_len]; omega),List.getElem?_eq_none (by simp; omega)]
theorem numsOf_extract (s : ByteArray) (a b : Nat) : numsOf (s.extract a b) = ((numsOf s).take b).drop a:=by
 unfold numsOf
 rw [ByteArray.data_extract,Array.toList_extract,List.extract_eq_take_drop,List.map_take,List.map_drop,List.drop_take]
theorem u8s_toList (l : List Int) : (u8s l).toList = l.map (fun x=>Value.int .u8 x):=by simp [u8s]
/-- 'copy' of a text into bytes. -/
theorem copy_u8 {w : World} {g : Nat} {t : TypeId} {l : List Int} (h : Blk w g t (u8s l)) (ty : TypeId) (o dLen dCap : Nat) (s : ByteArray) (hfit : o + min s.size dLen ≤ l.length) :
 (Builtin.copy_ #[195,9] ty #[.slice (some ⟨g,o,none⟩) dLen dCap,.string s]).run Tryz.prog w = .ok (goInt ((min s.size dLen : Nat) : Int)) (w.setRow g (u8s (splice l o ((numsOf s).take (min s.size dLen))))):=by
 have hcl : ((numsOf s).take (min s.size dLen)).length = min s.size dLen:=by rw [List.length_take,numsOf_len]; omega
 have hst:=run_storeCells_at Tryz.prog g o t (((numsOf s).take (min s.size dLen)).map (fun x=>Value.int .u8 x)) 0 (u8s l) w h (by rw [List.length_map,hcl,u8s_size]; simpa using hfit) (fun v hv=>by
  obtain ⟨x,_,rfl⟩:=List.mem_map.1 hv
  rfl)
 have hu:=Tryz.underlying195
 have hq : (Tryz.prog.info? 5).map (·.size) = some 1:=by kernel_rfl
 have he : ((u8s l).toList.take (o + 0) ++ (((numsOf s).take (min s.size dLen)).map (fun x=>Value.int .u8 x)) ++ (u8s l).toList.drop (o + 0 + (((numsOf s).take (min s.size dLen)).map (fun x=>Value.int .u8 x)).length)).toArray = u8s (splice l o ((numsOf s).take (min s.size dLen))):=by
  rw [u8s_toList,List.length_map]
  unfold splice u8s
  simp [List.map_take,List.map_drop]
 rw [he] at hst
 have hmin : Nat.min s.size dLen = min s.size dLen:=rfl
 have htk : List.take (Nat.min s.size dLen) (List.map (fun b : UInt8=>Value.int IntKind.u8 (b.toNat : Int)) s.data.toList) = ((numsOf s).take (min s.size dLen)).map (fun x=>Value.int .u8 x):=by
  unfold numsOf
  rw [hmin,← List.map_take,← List.map_take,List.map_map]
  rfl
 cases hi : Tryz.prog.info? 5 with
 | none=>rw [hi] at hq; cases hq
 | some i=>
  rw [hi] at hq
  have hs : i.size = 1:=by simpa using hq
  simp [Builtin.copy_,run_underlying hu,Builtin.lenOf,Builtin.firstCells,sizeOf,typeInfo,hi]
  rw [htk,hst]
  simp only [Result.andThen]
theorem right_rises {size : Int} : ∀ {ps : List (Int × ByteArray)} {last : Int},rightP size last ps → Rises ps
 | [],_,_=>fun a b x y h=>by simp at h
 | p :: t,last,h=>fun a b x y hx hy hab=>by
  obtain ⟨_,h3⟩:=h
  cases b with
  | zero=>omega
  | succ b=>
   have hy' : t[b]? = some y:=by simpa using hy
   cases a with
   | zero=>
    have hx' : p = x:=by simpa using hx
    subst hx'
    exact (right_bounds h3 y (List.mem_of_getElem? hy')).1
   | succ a=>exact right_rises h3 a b x y (by simpa using hx) hy' (by omega)
set_option maxRecDepth 100000 in
theorem sp_cmp2 (ix t : Int) (d : ByteArray) (w : World) (h1 : 0 ≤ ix ∧ ix ≤ 72057594037927936) (h2 : 0 ≤ t ∧ t ≤ 288230376151711744) :
 Calls Tryz.prog 236 #[.agg #[.int .i64 ix,.string d],.int .i64 t] w fun e w'=>e = .returned (.int .i64 (ix - t)) ∧ Below w.heap.size w w':=by
 have hw : IntKind.i64.wrap (ix - t) = ix - t:=by rw [IntKind.wrap_i64]; omega
 go_enter Tryz.func236,Tryz.ntmps236
 go_wp2
 go_ret
 exact ⟨rfl,(Below.refl _ _).alloc (Nat.le_refl _) _⟩
set_option maxRecDepth 100000 in
set_option maxHeartbeats 2000000 in
theorem sp_bsearch2 {w : World} {A : Option Addr} {n c : Nat} {ps : List (Int × ByteArray)} (t : Int) (hR : RdP w A n ps) (hn : n ≤ 70368744175616) (hr : Rises ps) (hb : ∀ x ∈ ps,0 ≤ x.1 ∧ x.1 ≤ 72057594037927936) (ht : 0 ≤ t ∧ t ≤ 288230376151711744) :
 Calls Tryz.prog 235 #[.slice A n c,.int .i64 t,.func (Fn.func 236) #[] #[]] w fun e w'=>FindEnds ps t e ∧ Below w.heap.size w w':=by
 have HR:=Lib.hid hR
 have HRI:=Lib.hid hr
 have HBD:=Lib.hid hb
 have HC : Hid (∀ ix d W,0 ≤ ix ∧ ix ≤ 72057594037927936 → Calls Tryz.prog 236 #[.agg #[.int .i64 ix,.string d],.int .i64 t] W fun e w'=>e = .returned (.int .i64 (ix - t)) ∧ Below W.heap.size W w'):=Lib.hid fun ix d W h=>sp_cmp2 ix t d W h ht
 clear hR hr hb
 go_enter Tryz.func235,Tryz.ntmps235
 go_wp2
 go_loopw [9,10] (fun i j wr=>∃ a b : Nat,a ≤ b ∧ b ≤ n ∧ i = .int .i64 a ∧ j = .int .i64 b ∧ Below w.heap.size w wr ∧ Hid (∀ k x,ps[k]? = some x → k < a → x.1 < t) ∧ Hid (∀ k x,ps[k]? = some x → b ≤ k → t ≤ x.1)) (fun i j _=>(intOf j).toNat - (intOf i).toNat)
 case atStart=>exact ⟨0,n,by omega,by omega,rfl,rfl,Below.refl _ _,Lib.hid (fun _ _ _ h=>by omega),Lib.hid (fun k x h1 h2=>by
  have:=(List.getElem?_eq_some_iff.1 h1).1
  have:=HR.out.1
  omega)⟩
 case round=>
  obtain ⟨a,b,hab,hbn,rfl,rfl,hbl,h1,h2⟩:=hrel
  by_cases hlt : a < b
  ·obtain ⟨m,hm⟩ : ∃ m : Nat,m = (a + b) / 2:=⟨_,rfl⟩
   have hma : a ≤ m ∧ m < b:=by omega
   have hmi : ((a : Int) + (b : Int)) / 2 = (m : Int):=by omega
   have hR2:=HR.out.below hbl
   obtain ⟨g,o,hl,rfl,hc0,hc1⟩:=hR2.at_ (k:=m) (by omega)
   have hx:=List.getElem?_eq_getElem hl
   have hbd:=HBD.out ps[m] (List.getElem_mem hl)
   generalize ps[m] = x at hc0 hc1 hx hbd
   have HX:=Lib.hid hx
   clear hR2 hx hm
   by_cases hxt : x.1 - t < 0
   ·go_wp2_with (go_at_call 236; refine (HC.out _ _ _ hbd).mono ?_; rintro e w2 ⟨rfl,hb2⟩; have HB2:=Lib.hid (bl_t hbl hb2); clear hb2)
    go_roundw
    case rel=>exact ⟨m + 1,b,by omega,hbn,by go_num,rfl,HB2.out,Lib.hid (fun k y hy hk=>by
     rcases Nat.lt_succ_iff_lt_or_eq.1 hk with h | rfl
     ·have:=HRI.out k m y x hy HX.out h; omega
     ·obtain rfl:=Option.some.inj (hy.symm.trans HX.out); omega),h2⟩
    case measure=>simp [intOf]; omega
   ·go_wp2_with (go_at_call 236; refine (HC.out _ _ _ hbd).mono ?_; rintro e w2 ⟨rfl,hb2⟩; have HB2:=Lib.hid (bl_t hbl hb2); clear hb2)
    go_roundw
    case rel=>exact ⟨a,m,by omega,by omega,rfl,rfl,HB2.out,h1,Lib.hid (fun k y hy hk=>by
     rcases Nat.lt_or_eq_of_le hk with h | rfl
     ·have:=HRI.out m k x y HX.out hy h; omega
     ·obtain rfl:=Option.some.inj (hy.symm.trans HX.out); omega)⟩
    case measure=>simp [intOf]; omega
  ·obtain rfl : a = b:=by omega
   have hlen:=HR.out.1
   have hpl : Hid (PlaceOf ps t a):=Lib.hid ⟨by omega,fun k x hx hk=>h1.out k x hx hk,fun k x hx hk=>h2.out k x hx hk⟩
   clear h1 h2
   by_cases han : a < n
   ·have hR2:=HR.out.below hbl
    obtain ⟨g,o,hl,rfl,hc0,hc1⟩:=hR2.at_ (k:=a) han
    have hx:=List.getElem?_eq_getElem hl
    have hbd:=HBD.out ps[a] (List.getElem_mem hl)
    generalize ps[a] = x at hc0 hc1 hx hbd
    have HX:=Lib.hid hx
    clear hR2 hx hlen
    have hF : Hid (FindEnds ps t (.returned (.tuple #[.int .i64 a,.bool (x.1 - t == 0)]))):=Lib.hid ⟨a,hpl.out,by
     rw [foundB,HX.out]
     have : (x.1 - t == 0) = decide (x.1 = t):=by
      by_cases h : x.1 = t
      ·simp [h]
      ·simp [h]; omega
     rw [this]⟩
    go_wp2_with (go_at_call 236; refine (HC.out _ _ _ hbd).mono ?_; rintro e w2 ⟨rfl,hb2⟩; have HB2:=Lib.hid (bl_t hbl hb2); clear hb2)
    go_ret2
    exact ⟨hF.out,HB2.out⟩
   ·have hF : Hid (FindEnds ps t (.returned (.tuple #[.int .i64 a,.bool false]))):=Lib.hid ⟨a,hpl.out,by
     rw [foundB,List.getElem?_eq_none (by omega)]⟩
    go_wp2
    go_ret2
    exact ⟨hF.out,hbl⟩
set_option maxRecDepth 100000 in
theorem sp_find2 {w : World} {A : Option Addr} {n c : Nat} {ps : List (Int × ByteArray)} (t : Int) (hR : RdP w A n ps) (hn : n ≤ 70368744175616) (hr : Rises ps) (hb : ∀ x ∈ ps,0 ≤ x.1 ∧ x.1 ≤ 72057594037927936) (ht : 0 ≤ t ∧ t ≤ 288230376151711744) :
 Calls Tryz.prog 179 #[.slice A n c,.int .i64 t] w fun e w'=>FindEnds ps t e ∧ Below w.heap.size w w':=by
 have HB:=Lib.hid (sp_bsearch2 (c:=c) t hR hn hr hb ht)
 clear hR hr hb
 go_enter Tryz.func179,Tryz.ntmps179
 go_wp2_with (go_at_call 235; refine HB.out.mono ?_; rintro e w2 ⟨⟨i,hp,rfl⟩,hb2⟩; have HP:=Lib.hid hp; have HB2:=Lib.hid hb2; clear hp hb2)
 go_ret2
 exact ⟨⟨i,HP.out,rfl⟩,HB2.out⟩
def readS (size off n : Int) (ps : List (Int × ByteArray)) : ByteArray:=strOfNums (readL (max (min n (size - off)) 0).toNat off ps)
def ReadEnds (size off m : Int) (ps : List (Int × ByteArray)) (e : Ending) : Prop:=
 (¬ checkP size ps ∧ e = .returned (.tuple #[.string ⟨#[]⟩,.int .i64 21])) ∨ (checkP size ps ∧ (off < 0 ∨ m < 0 ∨ 4096 < m) ∧ e = .returned (.tuple #[.string ⟨#[]⟩,.int .i64 1])) ∨
 (checkP size ps ∧ (0 ≤ off ∧ 0 ≤ m ∧ m ≤ 4096) ∧ e = .returned (.tuple #[.string (readS size off m ps),.int .i64 0]))
theorem info_u8 : (Tryz.prog.info? 5).map (fun i=>(i.zero,i.size,i.bytes)) = some (some (.int .u8 0),1,1):=by kernel_rfl
theorem made_u8 {w : World} {base g m : Nat} (h : w.ownsRow base 5 1 (.slice (some ⟨g,0,none⟩) m m) m (madeCells (Value.int .u8 0).cells (m * 1)).toList) : Blk w g 5 (u8s (List.replicate m 0)):=by
 rcases h.2 with ⟨h0,_⟩ | ⟨g',cap,cur,hv,_,hb,_,_,h3,h4⟩
 ·cases h0
 ·cases hv
  have e : cur = u8s (List.replicate m 0):=by
   apply Array.ext'
   rw [← List.take_of_length_le (l:=cur.toList) (i:=m * 1) (Nat.le_of_eq (by rw [Array.length_toList,h3])),h4,u8s_toList]
   refine List.ext_getElem (by simp [madeCells,Value.cells]) fun j h1 h2=>?_
   simp [madeCells,Value.cells,Nat.mod_one]
  rw [← e]
  exact hb
set_option maxRecDepth 100000 in
set_option maxHeartbeats 4000000 in
theorem sp_read {w : World} {A : Option Addr} {n c : Nat} {ps : List (Int × ByteArray)} (size off m : Int) (hoff : -9223372036854775808 ≤ off ∧ off ≤ 9223372036854775807) (hR : RdP w A n ps) (hn : n ≤ 1099511627776) :
 Calls Tryz.prog 111 #[.slice A n c,.int .i64 size,.int .i64 off,.int .i64 m] w fun e w'=>ReadEnds size off m ps e ∧ Below w.heap.size w w':=by
 obtain ⟨i0,hi,hz0,hz1,hz2⟩:=info_parts info_u8
 have hC:=Lib.hid (sp_check (c:=c) size hR (by omega))
 have HR:=Lib.hid hR
 clear hR
 by_cases hck : checkP size ps
 case neg=>
  have HK:=Lib.hid hck
  clear hck
  go_enter Tryz.func111,Tryz.ntmps111
  go_wp2_with (go_at_call 100; refine hC.out.mono ?_; rintro e w2 ⟨hce,hb2⟩; obtain rfl : e = .returned (.int .i64 21):=(hce.resolve_left (fun h=>HK.out h.1)).2; have HB2:=Lib.hid hb2; clear hce hb2)
  go_ret2
  exact ⟨.inl ⟨HK.out,rfl⟩,HB2.out⟩
 have HK:=Lib.hid hck
 have hbd:=check_bounds hck
 have hrs:=Lib.hid (right_rises hck.2.2)
 have hz_0:=hck.1
 have hz_1:=hck.2.1
 clear hck
 by_cases hbad : off < 0 ∨ m < 0 ∨ 4096 < m
 ·have HY : Hid (ReadEnds size off m ps (.returned (.tuple #[.string ⟨#[]⟩,.int .i64 1]))):=Lib.hid (.inr (.inl ⟨HK.out,hbad,rfl⟩))
  clear hbd
  by_cases h1 : off < 0
  ·clear hbad
   go_enter Tryz.func111,Tryz.ntmps111
   go_wp2_with (go_at_call 100; refine hC.out.mono ?_; rintro e w2 ⟨hce,hb2⟩; obtain rfl : e = .returned (.int .i64 0):=(hce.resolve_right (fun h=>h.1 HK.out)).2; have HB2:=Lib.hid hb2; clear hce hb2)
   go_ret2
   exact ⟨HY.out,HB2.out⟩
  ·by_cases h2 : m < 0
   ·clear hbad
    go_enter Tryz.func111,Tryz.ntmps111
    go_wp2_with (go_at_call 100; refine hC.out.mono ?_; rintro e w2 ⟨hce,hb2⟩; obtain rfl : e = .returned (.int .i64 0):=(hce.resolve_right (fun h=>h.1 HK.out)).2; have HB2:=Lib.hid hb2; clear hce hb2)
    go_ret2
    exact ⟨HY.out,HB2.out⟩
   ·have h3 : 4096 < m:=by omega
    clear hbad
    go_enter Tryz.func111,Tryz.ntmps111
    go_wp2_with (go_at_call 100; refine hC.out.mono ?_; rintro e w2 ⟨hce,hb2⟩; obtain rfl : e = .returned (.int .i64 0):=(hce.resolve_right (fun h=>h.1 HK.out)).2; have HB2:=Lib.hid hb2; clear hce hb2)
    go_ret2
    exact ⟨HY.out,HB2.out⟩
 have h1 : 0 ≤ off:=by omega
 have h2 : 0 ≤ m:=by omega
 have h3 : m ≤ 4096:=by omega
 clear hbad
 have HD : Hid (ReadEnds size off m ps (.returned (.tuple #[.string (readS size off m ps),.int .i64 0]))):=Lib.hid (.inr (.inr ⟨HK.out,⟨h1,h2,h3⟩,rfl⟩))
 obtain ⟨k,hk⟩ : ∃ k : Nat,max (min m (size - off)) 0 = (k : Int):=⟨(max (min m (size - off)) 0).toNat,by omega⟩
 have hk4 : k ≤ 4096:=by omega
 have hks : (0 < k) → (off : Int) ≤ size:=fun h=>by omega
 have HS : Hid (readS size off m ps = strOfNums (readL k off ps)):=Lib.hid (by unfold readS; rw [hk,Int.toNat_natCast])
 have q1 : wrap64 (size - off) = size - off:=by unfold wrap64; omega
 obtain ⟨q,hq⟩ : ∃ q,off.tdiv 64 = q:=⟨_,rfl⟩
 have hq1 : q * 64 ≤ off ∧ off < q * 64 + 64:=by rw [← hq,Int.tdiv_eq_ediv_of_nonneg h1]; omega
 have hq2 : IntKind.i64.wrap q = q:=by rw [IntKind.wrap_i64]; omega
 go_enter Tryz.func111,Tryz.ntmps111
 go_wp2_with (first
  |(go_at_call 100; refine hC.out.mono ?_; rintro e w2 ⟨hce,hb2⟩; obtain rfl : e = .returned (.int .i64 0):=(hce.resolve_right (fun h=>h.1 HK.out)).2; have HB2:=Lib.hid hb2; clear hce hb2)
  |(at_make
    refine wpList_make_full _ rfl _ _ _ rfl w2.heap.size 5 i0 (.int .u8 0) 1 Tryz.underlying195 hi hz0 hz1 .i64 .i64 (k : Int) (k : Int) k rfl rfl rfl rfl (by rw [hz2]; omega) (by unfold maxLen; omega) (Nat.le_refl _) ?_
    intro w3 hown3 hg3
    have HB3:=Lib.hid (made_u8 hown3)
    have hb3 : Below w2.heap.size w2 w3:=(Below.refl _ _).grown hg3 (Nat.le_refl _) (fun k hk=>by cases hk)
    have HBL:=Lib.hid hb3
    have HF:=Lib.hid (sp_find2 (c:=c) q (HR.out.below (bl_t HB2.out hb3)) (by omega) hrs.out (fun x hx=>(hbd x hx).1) ⟨by omega,by omega⟩)
    clear hown3 hg3 hb3)
  |(go_at_call 179
    refine HF.out.mono ?_
    rintro e w4 ⟨⟨st,hpl,rfl⟩,hb4⟩
    have HB4:=Lib.hid (blk_below HB3.out hb4)
    have HBW:=Lib.hid (bl_t (bl_t HB2.out HBL.out) hb4)
    have HPL:=Lib.hid hpl
    clear hb4 hpl))
 have hlb : w.heap.size ≤ w2.heap.size:=HB2.out.size
 have hst : st ≤ n:=by have h:=HPL.out.1; have h2:=HR.out.1; omega
 generalize w2.heap.size = b at *
 go_loopw [12] (fun i wr=>∃ j : Nat,j ≤ n ∧ st ≤ j ∧ i = .int .i64 j ∧ Below w.heap.size w wr ∧ Hid (Blk wr b 5 (u8s (readL k off (ps.take j))))) (fun i _=>n - (intOf i).toNat)
 case atStart=>exact ⟨st,hst,Nat.le_refl _,rfl,HBW.out,Lib.hid (by
  rw [readL_none fun p hp=>?_]
  ·exact HB4.out
  ·obtain ⟨a,ha⟩:=List.mem_iff_getElem?.1 hp
   have hlt : a < st:=by
    have:=(List.getElem?_eq_some_iff.1 ha).1
    rw [List.length_take] at this
    omega
   rw [List.getElem?_take_of_lt hlt] at ha
   have:=HPL.out.2.1 a p ha hlt
   omega)⟩
 case round=>
  obtain ⟨j,hj,hsj,rfl,hb,HBR⟩:=hrel
  have HB:=Lib.hid hb
  clear hb
  have hdone : Hid (readL k off (ps.take j) = readL k off ps → ∀ dc,Blk wr b 5 (u8s (readL k off (ps.take j))) → (convert 195 9 (.slice (some ⟨b,0,none⟩) k dc)).run Tryz.prog wr = .ok (.string (readS size off m ps)) wr):=Lib.hid fun he dc hB=>by
   rw [HS.out,← he]
   exact run_convert_bytes_arg (P:=Tryz.prog) wr 195 5 Tryz.underlying195 Tryz.underlying5 b 0 k dc (readL k off (ps.take j)) (readL_len _ _ _) (fun i hi=>by
    rw [Nat.zero_add]
    exact (hB.cell _).trans (u8s_at _ _ (by rw [readL_len]; omega))) 9 Tryz.underlying9
  have hpl : (ps.take j).length = j:=by rw [List.length_take]; have:=HR.out.1; omega
  clear hpl
  by_cases hlt : j < n
  case neg=>
   have hcv:=hdone.out (by rw [List.take_of_length_le (by have:=HR.out.1; omega)]) k HBR.out
   clear hdone
   go_wp2
   go_ret2
   exact ⟨HD.out,HB.out⟩
  by_cases hk0 : k = 0
  ·have hcv:=hdone.out (by rw [hk0]; rfl) k HBR.out
   subst hk0
   clear hdone
   go_wp2
   go_ret2
   exact ⟨HD.out,HB.out⟩
  have hkp : 0 < k:=by omega
  have hRw:=HR.out.below HB.out
  obtain ⟨g,o,hjl,rfl,hp0,hp1⟩:=hRw.at_ hlt
  have hps : ps.take (j + 1) = ps.take j ++ [ps[j]]:=List.take_succ_eq_append_getElem hjl
  obtain ⟨hix,hsz⟩:=hbd ps[j] (List.getElem_mem hjl)
  have hqx:=HPL.out.2.2 j ps[j] (List.getElem?_eq_getElem hjl) hsj
  have hlast : ∀ p ∈ ps.take j,p.1 ≠ (ps[j]).1:=fun p hp=>by
   obtain ⟨a,ha⟩:=List.mem_iff_getElem?.1 hp
   have hal : a < j:=by
    have:=(List.getElem?_eq_some_iff.1 ha).1
    rw [List.length_take] at this
    omega
   rw [List.getElem?_take_of_lt hal] at ha
   have:=hrs.out a j p ps[j] ha (List.getElem?_eq_getElem hjl) hal
   omega
  have hrest : ∀ p ∈ ps.drop j,(ps[j]).1 ≤ p.1:=fun p hp=>by
   obtain ⟨a,ha⟩:=List.mem_iff_getElem?.1 hp
   rw [List.getElem?_drop] at ha
   rcases Nat.eq_zero_or_pos a with h0 | h0
   ·subst h0
    rw [Nat.add_zero,List.getElem?_eq_getElem hjl] at ha
    cases ha
    exact Int.le_refl _
   ·have:=hrs.out j (j + a) ps[j] p (List.getElem?_eq_getElem hjl) ha (by omega)
    omega
  generalize ps[j] = p at hp0 hp1 hps hix hsz hqx hlast hrest
  obtain ⟨ix,dt⟩:=p
  simp only at hp0 hp1 hix hsz hqx hlast hrest
  have HPS:=Lib.hid hps
  have HLA:=Lib.hid hlast
  clear hRw hps hlast
  have r1 : wrap64 (ix * 64) = ix * 64:=by unfold wrap64; omega
  have r2 : wrap64 (ix * 64 - off) = ix * 64 - off:=by unfold wrap64; omega
  by_cases hbr : (k : Int) ≤ ix * 64 - off
  ·have hcv:=hdone.out (by
    have h:=readL_all (m:=k) (off:=off) (l:=ps.take j) (r:=ps.drop j) (fun p hp=>by have:=hrest p hp; omega)
    rw [List.take_append_drop] at h
    exact h) k HBR.out
   clear hdone hrest
   go_wp2
   go_ret2
   exact ⟨HD.out,HB.out⟩
  clear hdone hrest
  by_cases hng : ix * 64 - off < 0
  ·obtain ⟨fr,hfr⟩ : ∃ fr : Nat,ix * 64 - off = -(fr : Int):=⟨(off - ix * 64).toNat,by omega⟩
   have hf64 : fr < 64:=by omega
   have hf0 : 0 < fr:=by omega
   have hn1:=readL_neg (m:=k) hsz HLA.out hfr hf64
   rw [← HPS.out] at hn1
   have hl:=readL_len k off (ps.take j)
   have hez : (dt.extract fr 64).size = 64 - fr:=by rw [ByteArray.size_extract]; omega
   have hnx : numsOf (dt.extract fr 64) = (numsOf dt).drop fr:=by rw [numsOf_extract,List.take_of_length_le (by rw [numsOf_len]; omega)]
   have hcp:=fun ty dc=>copy_u8 HBR.out ty 0 k dc (dt.extract fr 64) (by rw [hl,hez]; omega)
   rw [hez,hnx,hn1] at hcp
   have hB5:=HBR.out.row (cs':=u8s (readL k off (ps.take (j + 1))))
   have hb5:=below_setRow HB.out (Nat.le_trans hlb (Nat.le_refl b)) (u8s (readL k off (ps.take (j + 1))))
   have HB5:=Lib.hid hB5
   have HBB:=Lib.hid hb5
   generalize wr.setRow b (u8s (readL k off (ps.take (j + 1)))) = w5 at *
   clear hB5 hb5 hn1 hl hnx hez
   go_wp2
   go_roundw
   case rel=>exact ⟨j + 1,by omega,by omega,by go_num,HBB.out,HB5⟩
   case measure=>show n - Int.toNat ((j : Int) + 1) < n - Int.toNat (j : Int); omega
  ·obtain ⟨fr,hfr⟩ : ∃ fr : Nat,ix * 64 - off = (fr : Int):=⟨(ix * 64 - off).toNat,by omega⟩
   have hf64 : fr < k:=by omega
   have hn1:=readL_pos (m:=k) hsz HLA.out hfr hf64
   rw [← HPS.out] at hn1
   have hl:=readL_len k off (ps.take j)
   have hcp:=fun ty dc=>copy_u8 (w:=wr.drew) HBR.out ty fr (k - fr) dc dt (by rw [hl,hsz]; omega)
   rw [hsz,hn1] at hcp
   have hB5 : Blk (wr.drew.setRow b (u8s (readL k off (ps.take (j + 1))))) b 5 (u8s (readL k off (ps.take (j + 1)))):=Blk.row (w:=wr.drew) HBR.out
   have hb5:=below_setRow HB.out.drew (Nat.le_trans hlb (Nat.le_refl b)) (u8s (readL k off (ps.take (j + 1))))
   have HB5:=Lib.hid hB5
   have HBB:=Lib.hid hb5
   generalize wr.drew.setRow b (u8s (readL k off (ps.take (j + 1)))) = w5 at *
   have hkf : ¬ (k = fr):=by omega
   clear hB5 hb5 hn1 hl
   go_wp2
   refine wp_region_quiet_tail 8 (by kernel_rfl) (by kernel_rfl) ?_
   simp only [List.take_succ_cons,List.take_zero,List.drop_succ_cons,List.drop_zero]
   repeat (go_big_quiet_step (fail))
   refine wpQuiet_nil ?_
   go_wp2
   go_roundw
   case rel=>exact ⟨j + 1,by omega,by omega,by go_num,HBB.out,HB5⟩
   case measure=>show n - Int.toNat ((j : Int) + 1) < n - Int.toNat (j : Int); omega
end Go.Proofs.YtpboohfofodeeaaGreatDoor
