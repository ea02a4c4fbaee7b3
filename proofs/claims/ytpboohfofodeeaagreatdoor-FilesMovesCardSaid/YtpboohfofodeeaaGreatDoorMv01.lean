/- Sparse bytes, plainly: what is right stays right behind a write, a cut, a hole (conditions: none). -/
import Derived.Test.YtpboohfofodeeaaGreatDoorM35
import Derived.Test.YtpboohfofodeeaaGreatDoorM40
namespace Go.Proofs.YtpboohfofodeeaaGreatDoor
open Go.RowKit Go.Maps
theorem mem_drop_zero {x:UInt8} (hx:x≠0):∀ {l:List UInt8},x∈l→x∈l.dropWhile (· == 0)
 | y :: t,h=>by
  by_cases hy:y=0
  ·subst hy
   rcases List.mem_cons.1 h with e | h
   ·exact absurd e hx
   ·have:=mem_drop_zero hx h
    simpa [List.dropWhile_cons] using this
  ·have hq:(y == 0)=false:=by simpa using hy
   rw [List.dropWhile_cons,hq]
   simpa using h
theorem drop_zero_nil:∀ {l:List UInt8},(∀ b∈l,b=0)→l.dropWhile (· == 0)=[]
 | [],_=>rfl
 | y :: t,h=>by
  have hy:y=0:=h y (by simp)
  subst hy
  have:=drop_zero_nil (l:=t) fun b hb=>h b (by simp [hb])
  simpa [List.dropWhile_cons] using this
theorem trim_zero {l:List UInt8}:Lib.trimB l 0=[]↔∀ b∈l,b=0:=by
 unfold Lib.trimB Lib.trimRightB Lib.trimLeftB
 constructor
 ·intro h b hb
  refine Classical.byContradiction fun hn=>?_
  have h1:b∈(l.reverse.dropWhile (· == 0)).reverse:=List.mem_reverse.2 (mem_drop_zero hn (List.mem_reverse.2 hb))
  have h2:=mem_drop_zero hn h1
  rw [h] at h2
  cases h2
 ·intro h
  rw [drop_zero_nil fun b hb=>h b (List.mem_reverse.1 hb)]
  rfl
/-- Bytes are right. -/
structure Chk (size:Int) (ps:List (Int × ByteArray)):Prop where
 lo:0≤size
 hi:size≤4611686018427387904
 rises:Rises ps
 bd:∀ p∈ps,0≤p.1∧p.1 * 64 < size∧p.2.size=64
 zero:∀ p∈ps,∀ k:Nat,k < 64→size≤p.1 * 64+k→(numsOf p.2)[k]? = some 0
def tailZ (size:Int) (p:Int × ByteArray):Prop:=size - p.1 * 64 < 64→Lib.trimB (p.2.extract (size - p.1 * 64).toNat 64).data.toList 0=[]
theorem rightP_iff {size:Int}:∀ {ps:List (Int × ByteArray)} {last:Int},rightP size last ps↔ps.Pairwise (fun x y=>x.1 < y.1)∧∀ p∈ps,last < p.1∧p.1 * 64 < size∧p.2.size=64∧tailZ size p
 | [],last=>⟨fun _=>⟨List.Pairwise.nil,by simp⟩,fun _=>trivial⟩
 | x :: t,last=>by
  constructor
  ·rintro ⟨⟨h1,h2,h3,h4⟩,h5⟩
   obtain ⟨h6,h7⟩:=rightP_iff.1 h5
   refine ⟨List.pairwise_cons.2 ⟨fun p hp=>(h7 p hp).1,h6⟩,fun p hp=>?_⟩
   rcases List.mem_cons.1 hp with rfl | hp
   ·exact ⟨h1,h2,h3,h4⟩
   ·have:=h7 p hp
    exact ⟨by omega,this.2⟩
  ·rintro ⟨h1,h2⟩
   obtain ⟨h3,h4⟩:=List.pairwise_cons.1 h1
   exact ⟨h2 x (by simp),rightP_iff.2 ⟨h4,fun p hp=>⟨h3 p hp,(h2 p (by simp [hp])).2⟩⟩⟩
theorem tail_iff {size:Int} {p:Int × ByteArray} (h0:p.1 * 64 < size) (hz:p.2.size=64):tailZ size p↔∀ k:Nat,k < 64→size≤p.1 * 64+k→(numsOf p.2)[k]? = some 0:=by
 have hl:p.2.data.toList.length=64:=by rw [Array.length_toList]; exact hz
 have hd:(p.2.extract (size - p.1 * 64).toNat 64).data.toList=(p.2.data.toList.take 64).drop (size - p.1 * 64).toNat:=by
  rw [ByteArray.data_extract,Array.toList_extract,List.extract_eq_drop_take']
 have hn:∀ k:Nat,(numsOf p.2)[k]? = (p.2.data.toList[k]?).map fun b=>(b.toNat:Int):=fun k=>by unfold numsOf; rw [List.getElem?_map]
 unfold tailZ
 rw [hd,trim_zero,List.take_of_length_le (by omega)]
 constructor
 ·intro h k hk hs
  have hm:=h (by omega) (p.2.data.toList[k]'(by omega)) (List.mem_drop_iff_getElem.2 ⟨k - (size - p.1 * 64).toNat,by omega,by congr 1; omega⟩)
  rw [hn,List.getElem?_eq_getElem (by omega),hm]
  rfl
 ·intro h _ b hb
  obtain ⟨j,hj,rfl⟩:=List.mem_drop_iff_getElem.1 hb
  have:=h ((size - p.1 * 64).toNat+j) (by omega) (by omega)
  rw [hn,List.getElem?_eq_getElem (by omega)] at this
  simp only [Option.map_some,Option.some.injEq] at this
  have h2:(p.2.data.toList[(size - p.1 * 64).toNat+j]'(by omega)).toNat=0:=by omega
  exact UInt8.toNat_inj.1 h2
theorem chk_iff {size:Int} {ps:List (Int × ByteArray)}:checkP size ps↔Chk size ps:=by
 constructor
 ·rintro ⟨h1,h2,h3⟩
  obtain ⟨h4,h5⟩:=rightP_iff.1 h3
  exact ⟨h1,h2,rises_pair.2 h4,fun p hp=>⟨by have:=(h5 p hp).1; omega,(h5 p hp).2.1,(h5 p hp).2.2.1⟩,fun p hp=>(tail_iff (h5 p hp).2.1 (h5 p hp).2.2.1).1 (h5 p hp).2.2.2⟩
 ·intro h
  exact ⟨h.lo,h.hi,rightP_iff.2 ⟨rises_pair.1 h.rises,fun p hp=>⟨by have:=(h.bd p hp).1; omega,(h.bd p hp).2.1,(h.bd p hp).2.2,(tail_iff (h.bd p hp).2.1 (h.bd p hp).2.2).2 (h.zero p hp)⟩⟩⟩
theorem zeroL_at (l:List Int) (lo hi:Int) (k:Nat):(zeroL l lo hi)[k]? = if lo≤(k:Int)∧(k:Int) < hi then (l[k]?).map (fun _=>0) else l[k]?:=by
 unfold zeroL
 rw [List.getElem?_mapIdx]
 cases l[k]? <;> simp <;> split <;> rfl
theorem zeroL_lt {l:List Int} {lo hi:Int} (h:∀ x∈l,0≤x∧x < 256):∀ x∈zeroL l lo hi,0≤x∧x < 256:=fun x hx=>by
 unfold zeroL at hx
 obtain ⟨k,hk,rfl⟩:=List.mem_mapIdx.1 hx
 split
 ·omega
 ·exact h _ (List.getElem_mem _)
theorem zeroB_nums (s:ByteArray) (lo hi:Int):numsOf (zeroB s lo hi)=zeroL (numsOf s) lo hi:=numsOf_strOfNums (zeroL_lt fun _ hx=>numsOf_lt hx)
theorem Chk.zer {size size' lo_ hi_:Int} {ps:List (Int × ByteArray)} {gone:Int→Bool} (h:Chk size ps) (h0:0≤size') (h1:size'≤4611686018427387904) (hb:∀ p∈ps,gone p.1=false→p.1 * 64 < size') (hz:∀ p∈ps,∀ k:Nat,k < 64→size'≤p.1 * 64+k→p.1 * 64+k < size→lo_≤p.1 * 64+k∧p.1 * 64+k < hi_):Chk size' (zerS lo_ hi_ gone ps):=by
 have hp:=(Pcs.mk h.rises fun p hp=>(h.bd p hp).2.2).zer lo_ hi_ gone
 have hx:∀ p∈zerS lo_ hi_ gone ps,∃ q∈ps,gone q.1=false∧zerP lo_ hi_ q=p:=fun p hp=>by
  unfold zerS at hp
  obtain ⟨q,hq,rfl⟩:=List.mem_map.1 hp
  obtain ⟨h1,h2⟩:=List.mem_filter.1 hq
  exact ⟨q,h1,by simpa using h2,rfl⟩
 refine ⟨h0,h1,hp.rises,fun p hm=>?_,fun p hm k hk hs=>?_⟩
 ·obtain ⟨q,hq,hg,rfl⟩:=hx p hm
  exact ⟨(h.bd q hq).1,hb q hq hg,hp.sizes _ hm⟩
 ·obtain ⟨q,hq,hg,rfl⟩:=hx p hm
  have hs':size'≤q.1 * 64+k:=hs
  have hlen:(numsOf q.2).length=64:=by rw [numsOf_len,(h.bd q hq).2.2]
  show (numsOf (zeroB q.2 _ _))[k]? = some 0
  rw [zeroB_nums,zeroL_at]
  split
  ·rw [List.getElem?_eq_getElem (by omega)]; rfl
  ·rename_i hn
   refine h.zero q hq k hk (Int.not_lt.1 fun hlt=>hn ?_)
   have:=hz q hq k hk hs' hlt
   omega
theorem Chk.trunc {size m:Int} {ps:List (Int × ByteArray)} (h:Chk size ps) (h0:0≤m) (h1:m≤4611686018427387904):Chk m (truncS m ps):=by
 refine h.zer h0 h1 (fun p _ hg=>?_) (fun p hp k hk hm hs=>?_)
 ·simpa using hg
 ·have:=h.hi
  omega
theorem Chk.punch {size off m:Int} {ps:List (Int × ByteArray)} (h:Chk size ps):Chk size (punchS size off m ps):=
 h.zer h.lo h.hi (fun p hp _=>(h.bd p hp).2.1) (fun p hp k hk hm hs=>by omega)
theorem Chk.grow {size size':Int} {ps:List (Int × ByteArray)} (h:Chk size ps) (hs:size≤size') (h1:size'≤4611686018427387904):Chk size' ps:=
 ⟨by have:=h.lo; omega,h1,h.rises,fun p hp=>⟨(h.bd p hp).1,by have:=(h.bd p hp).2.1; omega,(h.bd p hp).2.2⟩,fun p hp k hk hk'=>h.zero p hp k hk (by omega)⟩
theorem oldB_lt {ps:List (Int × ByteArray)} {ix:Int}:∀ x∈oldB ps ix,0≤x∧x < 256:=fun x hx=>by
 unfold oldB at hx
 split at hx
 ·exact numsOf_lt hx
 ·have:=(List.mem_replicate.1 hx).2
  omega
theorem wrL_lt {off p:Int} {data:ByteArray} {out:List (Int × ByteArray)}:∀ x∈wrL off data out p,0≤x∧x < 256:=fun x hx=>by
 unfold wrL splice at hx
 rcases List.mem_append.1 hx with hx | hx
 ·exact oldB_lt x (List.mem_of_mem_take hx)
 ·rcases List.mem_append.1 hx with hx | hx
  ·exact numsOf_lt (List.mem_of_mem_drop (List.mem_of_mem_take hx))
  ·exact oldB_lt x (List.mem_of_mem_drop hx)
theorem oldB_zero {size:Int} {ps:List (Int × ByteArray)} (h:Chk size ps) {ix:Int} {k:Nat} (hk:k < 64) (hs:size≤ix * 64+k):(oldB ps ix)[k]? = some 0:=by
 unfold oldB
 cases hf:ps.find? (fun p=>p.1 == ix) with
 | none=>
  simp only
  rw [List.getElem?_replicate,if_pos hk]
 | some q=>
  simp only
  have h1:q.1=ix:=by simpa using List.find?_some hf
  exact h.zero q (List.mem_of_find?_eq_some hf) k hk (by rw [h1]; exact hs)
theorem wrL_at {off p:Int} {data:ByteArray} {out:List (Int × ByteArray)} (hz:∀ p∈out,p.2.size=64) (k:Nat):(wrL off data out p)[k]? = if (p % 64).toNat≤k∧k < (p % 64).toNat+wrN data.size off p then (numsOf data)[(p - off).toNat+(k - (p % 64).toNat)]? else (oldB out (p / 64))[k]?:=by
 have hm:=Int.emod_lt_of_pos p (show (0:Int) < 64 by decide)
 have hm0:=Int.emod_nonneg p (show (64:Int)≠0 by decide)
 have hc:(((numsOf data).drop (p - off).toNat).take (wrN data.size off p)).length=wrN data.size off p:=by
  rw [List.length_take,List.length_drop,numsOf_len]; unfold wrN; omega
 unfold wrL
 rw [splice_at (by rw [hc,oldB_len hz]; unfold wrN; omega),hc]
 split
 ·rw [List.getElem?_take,List.getElem?_drop,if_pos (by omega)]
 ·rfl
theorem wrF_chk {size off:Int} {data:ByteArray} (hs:off+data.size≤size):∀ (f:Nat) (out:List (Int × ByteArray)) (p:Int),0≤off→off≤p→Chk size out→Chk size (wrF off data f out p)
 | 0,out,p,_,_,h=>h
 | f+1,out,p,h0,hp,h=>by
  rw [wrF]
  split
  ·rename_i hlt
   have hm:=Int.emod_lt_of_pos p (show (0:Int) < 64 by decide)
   have hm0:=Int.emod_nonneg p (show (64:Int)≠0 by decide)
   have hdm:=Int.mul_ediv_add_emod p 64
   have hzz:∀ p∈out,p.2.size=64:=fun p hp=>(h.bd p hp).2.2
   refine wrF_chk hs f _ _ h0 (by omega) ⟨h.lo,h.hi,putP_rises h.rises,fun q hq=>?_,fun q hq k hk hk'=>?_⟩
   ·rcases putP_mem hq with rfl | hq
    ·refine ⟨by show 0≤p / 64; omega,by show p / 64 * 64 < size; omega,?_⟩
     show (strOfNums _).size=64
     rw [strOfNums_size,wrL_size hzz]
    ·exact h.bd q hq
   ·rcases putP_mem hq with rfl | hq
    ·have hk2:size≤p / 64 * 64+k:=hk'
     show (numsOf (strOfNums _))[k]? = some 0
     rw [numsOf_strOfNums wrL_lt,wrL_at hzz]
     split
     ·rename_i hin
      unfold wrN at hin
      omega
     ·exact oldB_zero h hk hk2
    ·exact h.zero q hq k hk hk'
  ·exact h
theorem Chk.write {size off:Int} {data:ByteArray} {ps:List (Int × ByteArray)} (h:Chk size ps) (h0:0≤off) (h1:off≤4611686018427387904 - data.size):Chk (sizeW size off data.size) (writeS off data ps):=by
 unfold sizeW writeS
 split
 ·rename_i hz
  rw [hz,wrF,if_neg (by rw [hz]; omega)]
  exact h
 ·exact wrF_chk (by omega) _ _ _ h0 (Int.le_refl _) (h.grow (by omega) (by have:=h.hi; omega))
/-- What data leaves is right. -/
theorem data_chk {a:NodeA} {o:OpA} (h:Chk a.nd.size a.ps) (hc:dataC a o=0) (_hk:o.kind=8∨o.kind=9∨o.kind=10∨o.kind=11∨o.kind=21):Chk (dataSZ a o) (dataPS a o):=by
 have hk2:a.nd.kind≠2:=fun hk=>by unfold dataC at hc; rw [if_pos hk] at hc; cases hc
 unfold dataC at hc
 rw [if_neg hk2] at hc
 unfold dataSZ dataPS
 by_cases h8:o.kind=8
 ·rw [if_neg (by omega),if_neg (by omega),if_pos h8] at hc
  rw [if_pos h8,if_pos h8]
  have h1:¬ (o.off < 0∨4096 < o.data.size):=fun hb=>by rw [if_pos hb] at hc; cases hc
  rw [if_neg h1] at hc
  have h2:¬ (4611686018427387904 - (o.data.size:Int) < o.off):=fun hb=>by rw [if_pos hb] at hc; cases hc
  exact h.write (by omega) (by omega)
 ·rw [if_neg h8,if_neg h8]
  by_cases h10:o.kind=10
  ·rw [if_neg (by omega),if_neg (by omega),if_neg h8,if_pos h10] at hc
   rw [if_pos h10,if_pos h10]
   have h1:¬ o.n < 0:=fun hb=>by rw [if_pos hb] at hc; cases hc
   rw [if_neg h1] at hc
   have h2:¬ 4611686018427387904 < o.n:=fun hb=>by rw [if_pos hb] at hc; cases hc
   exact h.trunc (by omega) (by omega)
  ·rw [if_neg h10,if_neg h10]
   split
   ·exact h.punch
   ·exact h
end Go.Proofs.YtpboohfofodeeaaGreatDoor
/- Files, plainly: what operations leave can be taken again (conditions: none). -/
namespace Go.Proofs.YtpboohfofodeeaaGreatDoor
open Go.RowKit Go.Maps
/-- A path that is followed leads to no symlink. -/
def Nol (fs:FS) (r:WR):Prop:=r.code=0→r.ino≠0→∀ a,fs.N r.ino=some a→a.nd.kind≠3
theorem wrE_nol {fs:FS} {c:Int} (h:c≠0):Nol fs (wrE c):=fun h0=>absurd h0 h
theorem walkIn_nol {fs:FS} {K:ByteArray→List ByteArray→Int→WR} (hR:RightFS fs) (hK:∀ t rest dir,isDir fs dir→Nol fs (K t rest dir)):∀ (l:List ByteArray) (dir:Int),isDir fs dir→Nol fs (walkIn fs true K l dir)
 | [],dir,hd=>by
  rw [walkIn]
  intro _ _ a ha
  obtain ⟨b,hb,hk⟩:=hd
  have ha:fs.N dir=some a:=ha
  rw [hb] at ha
  cases ha
  omega
 | nm :: rest,dir,hd=>by
  by_cases hup:(nm.toList == [46,46])=true
  ·rw [walkIn_up hup]
   exact walkIn_nol hR hK rest _ (above_dir hR hd)
  ·cases hg:atG fs.G dir nm with
   | none=>
    by_cases h0:rest.length=0
    ·rw [walkIn_last hup hg h0]
     exact fun _ h=>absurd rfl h
    ·rw [walkIn_none hup hg h0]
     exact wrE_nol (by decide)
   | some ino=>
    obtain ⟨s,hs,hgs⟩:=slotAt_some hg
    obtain ⟨a,ha⟩:∃ a,fs.N ino=some a:=Option.ne_none_iff_exists'.1 (hR.named _ _ hgs).2.2.1
    by_cases hf:a.nd.kind=3∧(rest.length≠0∨true=true)
    ·rw [walkIn_link hup hg ha hf.1 hf.2]
     exact hK _ _ _ hd
    ·by_cases h0:rest.length=0
     ·rw [walkIn_is hup hg ha hf h0]
      intro _ _ b hb
      have hb:fs.N ino=some b:=hb
      rw [ha] at hb
      cases hb
      exact fun h=>hf ⟨h,.inr rfl⟩
     ·by_cases h2:a.nd.kind=2
      ·rw [walkIn_in hup hg ha h0 h2]
       exact walkIn_nol hR hK rest _ ⟨a,ha,h2⟩
      ·rw [walkIn_no hup hg ha (fun h3=>hf ⟨h3,.inl h0⟩) h0 h2]
       exact wrE_nol (by decide)
theorem walkK_nol {fs:FS} (hR:RightFS fs):∀ (k:Nat) (t:ByteArray) (rest:List ByteArray) (dir:Int),isDir fs dir→Nol fs (walkK fs true k t rest dir)
 | 0,_,_,_,_=>wrE_nol (by decide)
 | k+1,t,rest,dir,hd=>by
  rw [walkK]
  split
  ·exact wrE_nol (by decide)
  ·refine walkIn_nol hR (walkK_nol hR k) _ _ ?_
   split
   ·exact hR.rooted.2
   ·exact hd
theorem walk_nol {fs:FS} (hR:RightFS fs) (p:ByteArray):Nol fs (walkS fs p true):=walkIn_nol hR (walkK_nol hR 8) _ _ hR.rooted.2
theorem may_split {o:OpA} (hm:mayS o=0):(1≤o.kind∧o.kind≤21)∧mayK o.kind (splitP o.dest).2 o.n (targetB o.data) o.data.size (nameB o.name)=0:=by
 unfold mayS at hm
 by_cases h1:o.kind < 1∨21 < o.kind
 ·rw [if_pos h1] at hm; cases hm
 ·rw [if_neg h1] at hm
  by_cases h2:(splitP o.path).2≠0
  ·rw [if_pos h2] at hm; exact absurd hm h2
  ·rw [if_neg h2] at hm
   exact ⟨by omega,hm⟩
theorem may_mode {o:OpA} (hm:mayS o=0) (hk:o.kind=1∨o.kind=2∨o.kind=16):0≤o.n∧o.n≤4095:=by
 have h:=(may_split hm).2
 unfold mayK at h
 rw [if_neg (by omega),if_pos hk] at h
 by_cases hb:o.n < 0∨4095 < o.n
 ·rw [if_pos hb] at h; cases h
 ·omega
theorem may_targetB {o:OpA} (hm:mayS o=0) (hk:o.kind=3):targetB o.data=true:=by
 have h:=(may_split hm).2
 unfold mayK at h
 rw [if_neg (by omega),if_neg (by omega),if_pos hk] at h
 cases ht:targetB o.data with
 | true=>rfl
 | false=>rw [ht,if_neg (by decide)] at h; cases h
theorem may_attrB {o:OpA} (hm:mayS o=0) (hk:o.kind=12):nameB o.name=true∧o.data.size≤120:=by
 have h:=(may_split hm).2
 unfold mayK at h
 rw [if_neg (by omega),if_neg (by omega),if_neg (by omega)] at h
 by_cases hb:o.kind=12∧120 < o.data.size
 ·rw [if_pos hb] at h; cases h
 ·rw [if_neg hb,if_pos (.inl hk)] at h
  refine ⟨?_,by omega⟩
  cases ht:nameB o.name with
  | true=>rfl
  | false=>rw [ht,if_neg (by decide)] at h; cases h
theorem new_right {o:OpA} (hm:mayS o=0) (hk:makesP o):({ newND o with links:=1 }:ND).right∧(newND o).time=0∧(newND o).size=0:=by
 unfold newND
 by_cases h3:o.kind=3
 ·rw [if_pos h3]
  refine ⟨?_,rfl,rfl⟩
  show (ND.mk 3 0 0 1 0 o.data).right
  exact right3.2 ⟨by decide,by decide,by decide,by decide,rfl,may_targetB hm h3⟩
 ·rw [if_neg h3]
  refine ⟨?_,rfl,rfl⟩
  have hk':o.kind=1∨o.kind=2:=by unfold makesP at hk; omega
  have hn:=may_mode hm (by omega)
  rcases hk' with h | h
  ·rw [h]
   show (ND.mk 1 o.n 0 1 0 ⟨#[]⟩).right
   exact right1.2 ⟨by decide,by decide,hn.1,hn.2,by decide,by decide,rfl⟩
  ·rw [h]
   show (ND.mk 2 o.n 0 1 0 ⟨#[]⟩).right
   exact right2.2 ⟨by decide,by decide,hn.1,hn.2,rfl,rfl,rfl⟩
section
variable {fs:FS} {ino:Int} {a a':NodeA}
theorem Canon.node_ (h:Canon fs) (ha:fs.N ino=some a) (h1:a'.nd.right) (h2 : -9223372036854775808≤a'.nd.time∧a'.nd.time≤9223372036854775807) (h3:Rises a'.ps∧∀ p∈a'.ps,(KK.pc ino p.1).ok) (h4:∀ s v,a'.at_ s=some v→(KK.xa ino s).ok∧nameB s=true∧v.size≤120):Canon { fs with N:=upd fs.N ino a' }:=by
 refine ⟨h.next,fun k b e=>?_,h.name,fun k b e=>?_,fun k b e=>?_⟩
 ·rcases updI_some e with ⟨rfl,rfl⟩ | ⟨_,e⟩
  ·exact ⟨(h.node _ a ha).1,h1,h2⟩
  ·exact h.node k b e
 ·rcases updI_some e with ⟨rfl,rfl⟩ | ⟨_,e⟩
  ·exact h3
  ·exact h.piece k b e
 ·rcases updI_some e with ⟨rfl,rfl⟩ | ⟨_,e⟩
  ·exact h4
  ·exact h.attr k b e
theorem Canon.nd_ (h:Canon fs) (ha:fs.N ino=some a) {nd:ND} (h1:nd.right) (h2 : -9223372036854775808≤nd.time∧nd.time≤9223372036854775807):Canon (withNd fs ino a nd):=
 h.node_ ha (a':={ a with nd:=nd }) h1 h2 (h.piece ino a ha) (h.attr ino a ha)
theorem Canon.att_ (h:Canon fs) (ha:fs.N ino=some a) {fa:ByteArray→Option ByteArray} (h4:∀ s v,fa s=some v→(KK.xa ino s).ok∧nameB s=true∧v.size≤120):Canon (withAt fs ino a fa):=
 h.node_ ha (a':={ a with at_:=fa }) (h.node ino a ha).2.1 (h.node ino a ha).2.2 (h.piece ino a ha) h4
theorem Canon.rem_ (h:Canon fs):Canon { fs with N:=rem fs.N ino }:=
 ⟨h.next,fun k b e=>h.node k b (rem_some e).2,h.name,fun k b e=>h.piece k b (rem_some e).2,fun k b e=>h.attr k b (rem_some e).2⟩
theorem Canon.off_ (h:Canon fs) (s:SlotK):Canon { fs with G:=remK fs.G s }:=⟨h.next,h.node,fun x i e=>h.name x i (remK_ok e),h.piece,h.attr⟩
theorem Canon.put_ (h:Canon fs) {s:SlotK} {i:Int} (hd:0 < s.1.1∧s.1.1≤1099511627776) (hn:nameB s.1.2=true) (hi:0 < i∧i≤1099511627776):Canon (putG fs s i):=
 ⟨h.next,h.node,fun x j e=>by
  rcases updK_some (show updK fs.G s i x=some j from e) with ⟨rfl,rfl⟩ | ⟨_,e⟩
  ·have hz:=name_pos hn
   refine ⟨?_,WalkArith.wf_i64 (by omega)⟩
   unfold KK.ok keyRight
   omega
  ·exact h.name x j e,h.piece,h.attr⟩
theorem Canon.link_ (h:Canon fs) (ha:fs.N ino=some a) {n:Int} (hk:a.nd.kind≠2) (hn:1≤n∧n≤1099511627776):Canon { fs with N:=upd fs.N ino { a with nd:={ a.nd with links:=n } } }:=by
 obtain ⟨_,hr,ht⟩:=h.node ino a ha
 refine h.nd_ ha (nd:={ a.nd with links:=n }) ?_ ht
 unfold ND.right at hr ⊢
 obtain ⟨_,_,h3,h4,h5⟩:=hr
 exact ⟨hn.1,hn.2,h3,h4,h5.imp id (fun h=>h.imp (fun h=>absurd h.1 hk) id)⟩
theorem away_canon (h:Canon fs) (ha:fs.N ino=some a) (s:SlotK):Canon (awayS fs s ino a):=by
 unfold awayS
 by_cases h1:a.nd.links=1
 ·rw [if_pos h1]
  exact (h.rem_ (ino:=ino)).off_ s
 ·rw [if_neg h1]
  have hr:=(h.node ino a ha).2.1
  have hk:a.nd.kind≠2:=fun hk=>by unfold ND.right at hr; omega
  refine (h.link_ ha (n:=a.nd.links - 1) hk ?_).off_ s
  unfold ND.right at hr
  omega
end
theorem Wok.spot {fs:FS} {r:WR} (hC:Canon fs) (h:Wok fs r) (h0:r.code=0) (hn:r.ino=0∨r.name.toList.isEmpty=false):nameB r.name=true∧isDir fs r.dir∧(0 < r.dir∧r.dir≤1099511627776):=by
 rcases h.2 h0 with ⟨h1,_,h3⟩ | ⟨h1,h2,_⟩
 ·rcases hn with hn | hn
  ·obtain ⟨a,ha,_⟩:=h3.dir
   have:=hC.pos ha
   omega
  ·rw [h1,toList_eq] at hn
   exact absurd hn (by decide)
 ·obtain ⟨a,ha,_⟩:=h2.dir
  exact ⟨h1,h2.dir,hC.pos ha⟩
theorem LinkR.canon {fs fs':FS} {ino:Int} {a:NodeA} {tp:ByteArray} (hC:Canon fs) (hR:RightFS fs) (ha:fs.N ino=some a) (h:LinkR fs ino a tp 0 fs'):Canon fs':=by
 rcases h with ⟨_,h1,_⟩ | ⟨_,h1,h2,_⟩ | ⟨_,_,_,h1,_⟩ | ⟨_,_,_,_,h1,_⟩ | ⟨hk,h1,h2,h3,sl,h4,rfl,_⟩
 ·cases h1
 ·exact absurd h2.symm h1
 ·cases h1
 ·cases h1
 ·obtain ⟨hn,_,hd⟩:=(walk_ok hR hC.wf tp false).spot hC h1 (.inl h2)
  have hr:=(hC.node ino a ha).2.1
  refine (hC.link_ ha (n:=a.nd.links+1) hk ?_).put_ (by rw [h4]; exact hd) (by rw [h4]; exact hn) (hC.pos ha)
  unfold ND.right at hr
  omega
theorem RenR.canon {fs fs':FS} {sl:SlotK} {ino:Int} {a:NodeA} {tp:ByteArray} (hC:Canon fs) (hR:RightFS fs) (ha:fs.N ino=some a) (h:RenR fs sl ino a tp 0 fs'):Canon fs':=by
 rcases h with ⟨_,h,_⟩ | ⟨_,⟨h1,h,_⟩ | ⟨h1,⟨_,h,_⟩ | ⟨h2,⟨_,_,rfl⟩ | ⟨_,⟨_,_,h,_⟩ | ⟨_,⟨_,_,_,_,h,_⟩ | ⟨_,_,_,_,_,h,_⟩ | ⟨_,_,_,_,h,_⟩ | ⟨t,ht,_,h⟩⟩⟩⟩⟩⟩
 ·cases h
 ·exact absurd h.symm h1
 ·cases h
 ·exact hC
 ·cases h
 ·cases h
 ·cases h
 ·cases h
 ·obtain ⟨hn,_,hd⟩:=(walk_ok hR hC.wf tp false).spot hC h1 (.inr h2)
  rcases h with ⟨_,rfl⟩ | ⟨o,ho,_,_,rfl⟩
  ·exact (hC.off_ sl).put_ (by rw [ht]; exact hd) (by rw [ht]; exact hn) (hC.pos ha)
  ·exact ((away_canon hC ho t).off_ sl).put_ (by rw [ht]; exact hd) (by rw [ht]; exact hn) (hC.pos ha)
theorem updI_self {α:Type} {f:Int→Option α} {k:Int} {v:α} (h:f k=some v):upd f k v=f:=by
 funext x
 by_cases e:x=k
 ·rw [e,updI_at,h]
 ·rw [updI_ne e]
theorem ck_pieces {size ino:Int} {ps:List (Int × ByteArray)} (h:Chk size ps) (hi:0 < ino∧ino≤1099511627776):Rises ps∧∀ p∈ps,(KK.pc ino p.1).ok:=
 ⟨h.rises,fun p hp=>by
  have:=h.bd p hp
  have:=h.hi
  exact .inr (.inr (.inl ⟨rfl,hi.1,hi.2,rfl,by omega,by omega⟩))⟩
/-- What data meets: a file, its bytes right. -/
theorem data_file {fs:FS} {o:OpA} {sl:SlotK} {a:NodeA} (hC:Canon fs) (hR:RightFS fs) (hat:AtR fs (walkS fs o.path (followsB o.kind)) sl a) (h0:(walkS fs o.path (followsB o.kind)).code=0) (hk:o.kind=8∨o.kind=9∨o.kind=10∨o.kind=11∨o.kind=21) (hc:dataC a o=0):a.nd.kind=1∧Chk a.nd.size a.ps:=by
 have hf:followsB o.kind=true:=by rcases hk with h | h | h | h | h <;> rw [h] <;> rfl
 have hn:=walk_nol hR o.path
 rw [hf] at hat h0
 have h3:=hn h0 hat.ino a hat.node
 have h2:a.nd.kind≠2:=fun hk=>by unfold dataC at hc; rw [if_pos hk] at hc; cases hc
 have hr:=(hC.node _ a hat.node).2.1
 have h1:a.nd.kind=1:=by unfold ND.right at hr; omega
 exact ⟨h1,chk_iff.1 ((hR.filled _ a hat.node).2 h1)⟩
theorem data_canon {fs:FS} {ino:Int} {a:NodeA} {o:OpA} (hC:Canon fs) (ha:fs.N ino=some a) (hk:o.kind=8∨o.kind=9∨o.kind=10∨o.kind=11∨o.kind=21) (hc:dataC a o=0) (h1:a.nd.kind=1) (hck:Chk a.nd.size a.ps):Canon (dataFS fs ino a o):=by
 unfold dataFS
 rw [if_pos hc]
 have hd:=data_chk hck hc hk
 obtain ⟨_,hr,ht⟩:=hC.node ino a ha
 refine hC.node_ ha (a':=dataNA a o) ?_ ht (ck_pieces hd (hC.pos ha)) (hC.attr ino a ha)
 have h3:=hd.lo
 have h4:=hd.hi
 show ({ a.nd with size:=dataSZ a o }:ND).right
 unfold ND.right at hr ⊢
 exact ⟨hr.1,hr.2.1,hr.2.2.1,hr.2.2.2.1,.inl ⟨h1,h3,h4,by have:=hr.2.2.2.2; show a.nd.target.size=0; omega⟩⟩
theorem NodeR.canon {fs fs':FS} {ino:Int} {a:NodeA} {o:OpA} {p:AnsP} (hC:Canon fs) (ha:fs.N ino=some a) (hi:OpInts o) (hm:mayS o=0) (h:NodeR fs ino a o p fs'):Canon fs':=by
 obtain ⟨hk,hr,ht⟩:=hC.node ino a ha
 have hp:=hC.pos ha
 rcases h with ⟨k,_,rfl⟩ | ⟨_,rfl,_⟩ | ⟨_,⟨_,_,rfl⟩ | ⟨_,_,rfl⟩⟩ | ⟨_,rfl,_⟩ | ⟨k,_,rfl⟩ | ⟨_,_,rfl⟩ | ⟨_,rfl,_⟩ | ⟨_,rfl,_⟩ | ⟨_,rfl,_⟩
 ·refine hC.att_ ha fun s v hs=>?_
  rcases updK_some hs with ⟨rfl,rfl⟩ | ⟨_,hs⟩
  ·obtain ⟨hn,hz⟩:=may_attrB hm k
   have hzz:=name_pos hn
   refine ⟨?_,hn,hz⟩
   unfold KK.ok keyRight
   omega
  ·exact hC.attr ino a ha s v hs
 ·exact hC
 ·exact hC
 ·refine hC.att_ ha fun s v hs=>hC.attr ino a ha s v ?_
  unfold remK at hs
  split at hs
  ·cases hs
  ·exact hs
 ·exact hC
 ·refine hC.nd_ ha ?_ ht
  have:=may_mode hm (.inr (.inr k))
  unfold ND.right at hr ⊢
  exact ⟨hr.1,hr.2.1,this.1,this.2,hr.2.2.2.2⟩
 ·exact hC.nd_ ha (nd:={ a.nd with time:=o.n }) hr hi.n
 ·exact hC
 ·exact hC
 ·exact hC
/-- What an operation leaves, if it was done, can be taken again. -/
theorem DoesR.canon {fs fs':FS} {o:OpA} {p:AnsP} (hC:Canon fs) (hR:RightFS fs) (hi:OpInts o) (hm:mayS o=0) (h:DoesR fs o p fs') (h0:p.code=0):Canon fs':=by
 have hw:=walk_ok hR hC.wf o.path (followsB o.kind)
 rcases h with ⟨h1,rfl,_⟩ | ⟨hc,⟨hk,sl,hs,hmk⟩ | ⟨_,_,rfl,_⟩ | ⟨sl,a,hat,h2⟩⟩
 ·exact absurd h0 h1
 ·rcases hmk with ⟨_,rfl,_⟩ | ⟨_,_,rfl,_⟩ | ⟨hz,h2,rfl,_⟩
  ·exact absurd h0 (by decide:(161:Int)≠0)
  ·exact absurd h0 (by decide:(169:Int)≠0)
  ·obtain ⟨hn,hd,_⟩:=hw.spot hC hc (.inl hz)
   obtain ⟨r1,r2,_⟩:=new_right hm hk
   exact hC.make (by rw [hs]; exact hd) (by rw [hs]; exact hn) (by have:=hC.next; unfold numOk at this; omega) h2 r1 r2
 ·exact absurd h0 (by decide:(160:Int)≠0)
 ·rcases h2 with ⟨_,code,h3,rfl⟩ | ⟨_,code,h3,rfl⟩ | ⟨_,_,rfl⟩ | ⟨hk,rfl,rfl⟩ | ⟨_,h3⟩
  ·obtain rfl:code=0:=h0
   exact h3.canon hC hR hat.node
  ·obtain rfl:code=0:=h0
   exact h3.canon hC hR hat.node
  ·unfold unlinkS
   split
   ·exact away_canon hC hat.node sl
   ·exact hC
  ·obtain ⟨h1,hck⟩:=data_file hC hR hat hc hk h0
   exact data_canon hC hat.node hk h0 h1 hck
  ·exact h3.canon hC hat.node hi hm
end Go.Proofs.YtpboohfofodeeaaGreatDoor
/- law16: files behind operations; an operation that asks changes no item, plainly (conditions: none). -/
namespace Go.Proofs.YtpboohfofodeeaaGreatDoor
open Go.RowKit Go.Maps
theorem items_sorted {fs:FS} (hC:Canon fs) {L:List (ByteArray × ByteArray)} (hL:ItemsOf fs L):L.Pairwise (fun a b=>btLt a.1 b.1):=by
 obtain ⟨R,h1,h2,h3,h4⟩:=hL
 have hne:(R.map itx).Pairwise (fun a b=>a.1≠b.1):=by
  rw [List.pairwise_map]
  refine (List.nodup_iff_pairwise_ne.1 h1).imp_of_mem fun {x y} hx hy hne e=>hne ?_
  have hx:=(h2 x).1 hx
  have hy:=(h2 y).1 hy
  have ek:x.1=y.1:=kk_inj (hC.key hx) (hC.key hy) e
  obtain ⟨a,b⟩:=x
  obtain ⟨c,d⟩:=y
  simp only at ek
  subst ek
  rw [hasIt_det (fun k a e=>(hC.piece k a e).1) hx hy]
 have h5:L.Pairwise (fun a b=>a.1≠b.1):=(h3.pairwise_iff (fun h e=>h e.symm)).2 hne
 refine (h4.and h5).imp fun {a b} h=>?_
 rcases btLt_tri a.1 b.1 with h' | h' | h'
 ·exact h'
 ·exact absurd h' h.2
 ·exact absurd h' h.1
theorem sorted_ext:∀ {L L':List (ByteArray × ByteArray)},L.Pairwise (fun a b=>btLt a.1 b.1)→L'.Pairwise (fun a b=>btLt a.1 b.1)→(∀ x,x∈L↔x∈L')→L=L'
 | [],[],_,_,_=>rfl
 | [],y :: t,_,_,h=>by
  have:=(h y).2 (by simp)
  simp at this
 | x :: s,[],_,_,h=>by
  have:=(h x).1 (by simp)
  simp at this
 | x :: s,y :: t,h1,h2,h=>by
  obtain ⟨h3,h4⟩:=List.pairwise_cons.1 h1
  obtain ⟨h5,h6⟩:=List.pairwise_cons.1 h2
  have e:x=y:=by
   rcases List.mem_cons.1 ((h x).1 (by simp)) with e | hx
   ·exact e
   ·rcases List.mem_cons.1 ((h y).2 (by simp)) with e | hy
    ·exact e.symm
    ·exact absurd (h5 x hx) (btLt_asymm (h3 y hy))
  subst e
  rw [sorted_ext h4 h6 fun z=>?_]
  constructor
  ·intro hz
   rcases List.mem_cons.1 ((h z).1 (by simp [hz])) with rfl | hz'
   ·exact absurd (h3 z hz) (btLt_irrefl _)
   ·exact hz'
  ·intro hz
   rcases List.mem_cons.1 ((h z).2 (by simp [hz])) with rfl | hz'
   ·exact absurd (h5 z hz) (btLt_irrefl _)
   ·exact hz'
/-- The list of the items is one. -/
theorem items_one {fs:FS} (hC:Canon fs) {L L':List (ByteArray × ByteArray)} (h:ItemsOf fs L) (h':ItemsOf fs L'):L=L':=
 sorted_ext (items_sorted hC h) (items_sorted hC h') fun x=>(h.mem x).trans (h'.mem x).symm
/-- Files behind operations, and their items. -/
structure Mid (n:Nat) (fs:FS) (l:List (ByteArray × ByteArray)):Prop where
 canon:Canon fs
 items:ItemsOf fs l
 itm:Itm n fs
theorem mid_step {n:Nat} {fs:FS} {l l':List (ByteArray × ByteArray)} {o:OpA} {p:AnsP} (h:Mid n fs l) (ho:OpInts o) (hd:DoR l o p l') :
 (p.code≠0∧l'=[]∧p=ansP0 p.code)∨(p.code=0∧RightFS fs∧mayS o=0∧∃ fs',DoesR fs o p fs'∧Mid (n+5001) fs' l'):=by
 have ht:=take_items h.canon h.items
 rcases hd with ⟨_,rfl,rfl⟩ | ⟨_,_,_,h1,rfl,rfl⟩ | ⟨fs1,ht1,hr,hm,p1,fs',hd,hi,hc⟩
 ·exact .inl ⟨by decide,rfl,rfl⟩
 ·exact .inl ⟨h1,rfl,rfl⟩
 ·rw [ht] at ht1
  cases ht1
  rcases hc with ⟨h1,rfl,rfl⟩ | ⟨h1,rfl,h2⟩
  ·exact .inl ⟨h1,rfl,rfl⟩
  ·have hl:=(items_few h.itm h.items).1
   exact .inr ⟨h1,hr,hm,fs',hd,hd.canon h.canon hr ho hm h1,h2,hi.mono (by omega)⟩
/-- The reverse: files that are right. -/
theorem mid_right {n:Nat} {fs:FS} {l l':List (ByteArray × ByteArray)} {o:OpA} {p:AnsP} (h:Mid n fs l) (hr:RightFS fs) (hm:mayS o=0) (hd:DoR l o p l') :
 ∃ p1 fs',DoesR fs o p1 fs'∧p.code=p1.code∧(p1.code=0→p=p1∧ItemsOf fs' l'∧Itm (n+5001) fs'):=by
 rcases DoR.of_good ⟨h.canon,hr⟩ h.items hd with ⟨h1,_⟩ | ⟨_,p1,fs',hds,hi,hc⟩
 ·exact absurd hm h1
 ·have hl:=(items_few h.itm h.items).1
  rcases hc with ⟨h1,hp,_⟩ | ⟨h1,hp,h2⟩
  ·exact ⟨p1,fs',hds,by rw [hp]; rfl,fun h=>absurd h h1⟩
  ·exact ⟨p1,fs',hds,by rw [hp],fun _=>⟨hp,h2,hi.mono (by omega)⟩⟩
theorem mid_root {l:List (ByteArray × ByteArray)} (h:ItemsOf fsRoot l):Mid 2 fsRoot l:=⟨root_good.canon,h,root_itm⟩
def asksP (o:OpA):Prop:=o.kind=9∨o.kind=21∨o.kind=13∨o.kind=15∨o.kind=18∨o.kind=19∨o.kind=20
theorem data_self {fs:FS} {ino:Int} {a:NodeA} {o:OpA} (ha:fs.N ino=some a) (hk:o.kind=9∨o.kind=21):dataFS fs ino a o=fs:=by
 unfold dataFS
 split
 ·have e:dataNA a o=a:=by
   unfold dataNA dataSZ dataPS
   rw [if_neg (by omega),if_neg (by omega),if_neg (by omega),if_neg (by omega),if_neg (by omega)]
  rw [e,updI_self ha]
 ·rfl
theorem asks_same {fs fs':FS} {o:OpA} {p:AnsP} (h:DoesR fs o p fs') (hk:asksP o):fs'=fs:=by
 unfold asksP at hk
 rcases h with ⟨_,_,rfl⟩ | ⟨_,⟨h1,_⟩ | ⟨_,_,_,rfl⟩ | ⟨sl,a,hat,h2⟩⟩
 ·rfl
 ·omega
 ·rfl
 ·rcases h2 with ⟨h1,_⟩ | ⟨h1,_⟩ | ⟨h1,_⟩ | ⟨h1,_,rfl⟩ | ⟨_,h3⟩
  ·omega
  ·omega
  ·omega
  ·exact data_self hat.node (by omega)
  ·rcases h3 with ⟨k,_,rfl⟩ | ⟨_,rfl,_⟩ | ⟨k,_⟩ | ⟨_,rfl,_⟩ | ⟨k,_,rfl⟩ | ⟨k,_,rfl⟩ | ⟨_,rfl,_⟩ | ⟨_,rfl,_⟩ | ⟨_,rfl,_⟩
   ·omega
   ·rfl
   ·omega
   ·rfl
   ·omega
   ·omega
   ·rfl
   ·rfl
   ·rfl
theorem ask_law {n:Nat} {fs:FS} {l l':List (ByteArray × ByteArray)} {o:OpA} {p:AnsP} (h:Mid n fs l) (ho:OpInts o) (hd:DoR l o p l') (hc:p.code=0) (hk:asksP o):l'=l:=by
 rcases mid_step h ho hd with ⟨h1,_⟩ | ⟨_,_,_,fs',hds,hm⟩
 ·exact absurd hc h1
 ·obtain rfl:=asks_same hds hk
  exact items_one h.canon hm.items h.items
end Go.Proofs.YtpboohfofodeeaaGreatDoor
/- law16: made: files behind operations (conditions: none; printed by gen_did.py). -/
namespace Go.Proofs.YtpboohfofodeeaaGreatDoor
open Go.RowKit Go.Maps
/-- Files under way behind operations. -/
structure MadeAt (w wr:World) (m:Nat) (A:Option Addr) (L:List (ByteArray × ByteArray)) (fs:FS):Prop where
 ls:LsAt w wr m A L fs
 canon:Canon fs
theorem MadeAt.mid {w wr:World} {m:Nat} {A:Option Addr} {L:List (ByteArray × ByteArray)} {fs:FS} (h:MadeAt w wr m A L fs):Mid m fs L:=⟨h.canon,h.ls.it,h.ls.itm⟩
set_option maxRecDepth 100000 in
set_option maxHeartbeats 16000000 in
theorem lw_made {w:World} {A:Option Addr} {n c:Nat} {ops:List OpA} (hl:LibV w) (h:RdO w A n ops) (hn:n≤60) (hg:∀ o∈ops,greatB o=false) :
 Calls Tryz.prog 13 #[.slice A n c] w fun e w'=>∃ A' q L fs,e=.returned (.slice A' L.length q)∧MadeAt w w' (2+n * 5001) A' L fs:=by
 have HLV:=Lib.hid hl
 have HLEN:=Lib.hid h.1
 have HRO:=Lib.hid h
 have HGR:=Lib.hid hg
 clear hl h hg
 go_enter Tryz.func13,Tryz.ntmps13
 go_wp2_with (
  go_at_call 17
  refine (fl_new _).mono ?_
  rintro e w1 hI
  obtain ⟨hb1,v1,R1,L1,he1,hR1,hR2,hR3,hR4,hR5⟩:=hI
  obtain ⟨A1,q1,rfl⟩:=own_slice hR5
  subst he1
  have HM1:Hid (MadeAt w w1 (2+0 * 5001) A1 L1 fsRoot):=Lib.hid ⟨⟨it_row hR5 rfl,⟨R1,hR1,hR2,hR3,hR4⟩,root_itm,by omega,hb1⟩,root_good.canon⟩
  clear hb1 hR1 hR2 hR3 hR4 hR5)
 go_loopw [3,4] (fun v3 v4 wr=>∃ (k:Nat) (A3:Option Addr) (q3:Nat) (L:List (ByteArray × ByteArray)) (fs:FS),k≤n∧v4=.int .i64 k∧v3=.slice A3 L.length q3∧Hid (MadeAt w wr (2+k * 5001) A3 L fs)) (fun _ v4 _=>n - (intOf v4).toNat)
 case atStart=>exact ⟨0,A1,q1,L1,fsRoot,Nat.zero_le _,rfl,rfl,HM1⟩
 case round=>
  obtain ⟨k,A3,q3,L,fs,hk,rfl,rfl,HM⟩:=hrel
  clear HM1
  by_cases hlt:k < n
  ·obtain ⟨ad,rfl,hcs⟩:=(HRO.out.below HM.out.ls.bl).2.2 (by omega)
   obtain ⟨c0,c1,c2,c3,c4,c5,c6,hints⟩:=hcs k hlt
   clear hcs
   have hmem:ops.getD k default∈ops:=by
    rw [List.getD_eq_getElem?_getD,List.getElem?_eq_getElem (by have:=HLEN.out; omega)]
    exact List.getElem_mem _
   have hsm:=great_no (HGR.out _ hmem)
   clear hmem
   generalize ops.getD k default=go at *
   have HSM:=Lib.hid hsm
   have HIN:=Lib.hid hints
   have HL:=Lib.hid HM.out.ls
   clear hsm hints
   have hblk:=World.block_lt_of_cell? wr _ c0
   go_wp2_with fail
   go_cut [5,6] from 8 to 27 (fun v5 v6 wx=>∃ (A7:Option Addr) (q7:Nat) (p7:AnsP) (l7:List (ByteArray × ByteArray)) (r:Nat),v5=.slice A7 l7.length q7∧v6=.pointer (some ⟨r,0,none⟩)∧Hid (DidAt wr wx r A7 L go p7 l7))
   case first=>
    go_region_held3 (fun w'=>w'.cell? (ad.add (k * 7))=some (.int .i64 go.kind)∧w'.cell? ⟨(ad.add (k * 7)).block,(ad.add (k * 7)).off+1,none⟩=some (.string go.path)∧w'.cell? ⟨(ad.add (k * 7)).block,(ad.add (k * 7)).off+2,none⟩=some (.string go.dest)∧w'.cell? ⟨(ad.add (k * 7)).block,(ad.add (k * 7)).off+3,none⟩=some (.string go.name)∧w'.cell? ⟨(ad.add (k * 7)).block,(ad.add (k * 7)).off+4,none⟩=some (.int .i64 go.off)∧w'.cell? ⟨(ad.add (k * 7)).block,(ad.add (k * 7)).off+5,none⟩=some (.int .i64 go.n)∧w'.cell? ⟨(ad.add (k * 7)).block,(ad.add (k * 7)).off+6,none⟩=some (.string go.data)) (first | go_keep | exact (IsOpC.set (w:=v) ⟨e0,e1,e2,e3,e4,e5,e6⟩ (fun h=>by have:=hbu.size; omega)).all | exact (IsOpC.set (w:=v) ⟨e0,e1,e2,e3,e4,e5,e6⟩ (fun h=>by simp at h; omega)).all)
     (first
      |(go_at_call 15
        first
        |(refine (lw_own2 (w:=wr.drew) HL.out.rd HL.out.few_).mono ?_
          rintro e u ⟨A5,q5,rfl,hr5,hb5⟩
          have hbu:Below wr.heap.size wr u:=(Below.refl _ wr).drew.trans hb5
          obtain ⟨d0,d1,d2,d3,d4,d5,d6⟩:=IsOpC.below (w:=wr) (o:=go) ⟨c0,c1,c2,c3,c4,c5,c6⟩ hbu)
        |(have hbx:Below wr.heap.size wr (wr.drew.alloc (.cells #[.int .i64 0,.string ⟨#[]⟩,.slice none 0 0,.slice none 0 0,.int .i64 0,.int .i64 0,.int .i64 0,.int .i64 0,.int .i64 0,.int .i64 0,.string ⟨#[]⟩] 36)):=(Below.refl _ wr).drew.alloc (Nat.le_refl _) _
          refine (lw_own2 (HL.out.below hbx).rd HL.out.few_).mono ?_
          rintro e u ⟨A5,q5,rfl,hr5,hb5⟩
          have hbu:Below wr.heap.size wr u:=bl_t hbx hb5
          have hA5:Blk u wr.heap.size 36 #[.int .i64 0,.string ⟨#[]⟩,.slice none 0 0,.slice none 0 0,.int .i64 0,.int .i64 0,.int .i64 0,.int .i64 0,.int .i64 0,.int .i64 0,.string ⟨#[]⟩]:=blk_below (Blk.new wr.drew 36 #[.int .i64 0,.string ⟨#[]⟩,.slice none 0 0,.slice none 0 0,.int .i64 0,.int .i64 0,.int .i64 0,.int .i64 0,.int .i64 0,.int .i64 0,.string ⟨#[]⟩]) hb5
          have hlt5:wr.heap.size < u.heap.size:=hA5.lt
          obtain ⟨d0,d1,d2,d3,d4,d5,d6⟩:=IsOpC.below (w:=wr) (o:=go) ⟨c0,c1,c2,c3,c4,c5,c6⟩ hbu))
      |(go_at_call 14
        first
        |(refine (lw_do hr5 HL.out.it HL.out.itm HL.out.few2 (HLV.out.below (bl_t HL.out.bl hbu)) (o:=go) HSM.out HIN.out).mono ?_
          rintro e v hD
          obtain ⟨A7,q7,B5,p5,B6,p6,p7,l7,rfl,hd7,hr7,hn7,hb7⟩:=hD
          have hbv:Below wr.heap.size wr v:=bl_t hbu hb7
          obtain ⟨e0,e1,e2,e3,e4,e5,e6⟩:=IsOpC.below (w:=wr) (o:=go) ⟨c0,c1,c2,c3,c4,c5,c6⟩ hbv
          try
           have hA7:=blk_below hA5 hb7
           obtain ⟨z0,z1,z2,z3,z4,z5,z6,z7,z8,z9,z10⟩:=ans_cells (a:=ans0) hA7
           obtain ⟨y0,y1,y2,y3,y4,y5,y6,y7,y8,y9,y10⟩:=ans_frozen hA7
           simp only [ans0,zeroND] at z0 z1 z2 z3 z4 z5 z6 z7 z8 z9 z10)
        |(have hbx:Below u.heap.size u (u.alloc (.cells #[.int .i64 0,.string ⟨#[]⟩,.slice none 0 0,.slice none 0 0,.int .i64 0,.int .i64 0,.int .i64 0,.int .i64 0,.int .i64 0,.int .i64 0,.string ⟨#[]⟩] 36)):=(Below.refl _ u).alloc (Nat.le_refl _) _
          have HD:=lw_do (q:=q5) (hr5.below (Nat.le_refl _) hbx) HL.out.it HL.out.itm HL.out.few2 (HLV.out.below (bl_t (bl_t HL.out.bl hbu) hbx)) (o:=go) HSM.out HIN.out
          refine HD.mono ?_
          clear HD
          rintro e v hD
          obtain ⟨A7,q7,B5,p5,B6,p6,p7,l7,rfl,hd7,hr7,hn7,hb7⟩:=hD
          have hbv:Below wr.heap.size wr v:=bl_t (bl_t hbu hbx) hb7
          obtain ⟨e0,e1,e2,e3,e4,e5,e6⟩:=IsOpC.below (w:=wr) (o:=go) ⟨c0,c1,c2,c3,c4,c5,c6⟩ hbv
          have hA7:=blk_below (Blk.new u 36 #[.int .i64 0,.string ⟨#[]⟩,.slice none 0 0,.slice none 0 0,.int .i64 0,.int .i64 0,.int .i64 0,.int .i64 0,.int .i64 0,.int .i64 0,.string ⟨#[]⟩]) hb7
          have hlt7:u.heap.size < (u.alloc (.cells #[.int .i64 0,.string ⟨#[]⟩,.slice none 0 0,.slice none 0 0,.int .i64 0,.int .i64 0,.int .i64 0,.int .i64 0,.int .i64 0,.int .i64 0,.string ⟨#[]⟩] 36)).heap.size:=by simp
          obtain ⟨z0,z1,z2,z3,z4,z5,z6,z7,z8,z9,z10⟩:=ans_cells (a:=ans0) hA7
          obtain ⟨y0,y1,y2,y3,y4,y5,y6,y7,y8,y9,y10⟩:=ans_frozen hA7
          simp only [ans0,zeroND] at z0 z1 z2 z3 z4 z5 z6 z7 z8 z9 z10)))
    all_goals go_wp2_with fail
    all_goals go_meet
    ·exact ⟨A7,q7,p7,l7,v.heap.size,rfl,rfl,Lib.hid (did_new hd7 hr7 hbv)⟩
    ·exact ⟨A7,q7,p7,l7,u.heap.size,rfl,rfl,Lib.hid (did_set hd7 hr7 hA7 hlt7 hbu.size hbv)⟩
    ·exact ⟨A7,q7,p7,l7,wr.heap.size,rfl,rfl,Lib.hid (did_set hd7 hr7 hA7 hlt5 (Nat.le_refl _) hbv)⟩
   case rest=>
    obtain ⟨A7,q7,p7,l7,r,rfl,rfl,HD⟩:=hcut
    obtain ⟨B5,n5,B6,n6,hA⟩:=HD.out.an
    have x0:wc.cell? ⟨r,0,none⟩=some (.int .i64 p7.code):=hA.cell 0
    clear hA c0 c1 c2 c3 c4 c5 c6
    have hst:=mid_step HM.out.mid HIN.out HD.out.dor
    by_cases hc:p7.code=0
    ·have hst2:∃ fs',Mid (2+k * 5001+5001) fs' l7:=by
      rcases hst with ⟨h,_⟩ | ⟨_,_,_,fs',_,h⟩
      ·exact absurd hc h
      ·exact ⟨fs',h⟩
     obtain ⟨fs',hm⟩:=hst2
     have HN:Hid (MadeAt w wc (2+(k+1) * 5001) A7 l7 fs'):=Lib.hid ⟨⟨HD.out.rd,hm.items,hm.itm.mono (by omega),by omega,bl_t HM.out.ls.bl HD.out.bl⟩,hm.canon⟩
     rw [hc] at x0
     clear hst hm hc
     go_wp2_with fail
     go_round
     case rel=>exact ⟨k+1,A7,q7,l7,fs',by omega,by go_num,rfl,HN⟩
     case measure=>simp [intOf]; omega
    ·have HN:Hid (MadeAt w wc (2+(k+1) * 5001) A3 L fs):=Lib.hid ⟨⟨(HM.out.ls.below HD.out.bl).rd,HM.out.ls.it,HM.out.ls.itm.mono (by omega),by omega,bl_t HM.out.ls.bl HD.out.bl⟩,HM.out.canon⟩
     have hc':(p7.code == 0)=false:=by simpa using hc
     clear hst hc
     go_wp2_with fail
     go_round
     case rel=>exact ⟨k+1,A3,q3,L,fs,by omega,by go_num,rfl,HN⟩
     case measure=>simp [intOf]; omega
  ·obtain rfl:k=n:=by omega
   have HM2:=HM
   go_wp2
   go_ret
   exact ⟨A3,q3,L,fs,rfl,HM2.out⟩
end Go.Proofs.YtpboohfofodeeaaGreatDoor
