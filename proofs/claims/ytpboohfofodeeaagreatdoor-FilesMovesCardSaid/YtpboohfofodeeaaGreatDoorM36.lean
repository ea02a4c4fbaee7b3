/- Numbers and keys written and read back, plainly (conditions: none). -/
import Derived.Test.YtpboohfofodeeaaGreatDoorM06
import Derived.Test.YtpboohfofodeeaaGreatDoorM04
import Derived.Test.YtpboohfofodeeaaGreatDoorM10
import Derived.Test.YtpboohfofodeeaaGreatDoorM13
namespace Go.Proofs.YtpboohfofodeeaaGreatDoor
open Go.RowKit Go.Maps
theorem bt_str {l : List Int} {j : Nat} (hj : j < l.length) (h : ∀ x ∈ l,0 ≤ x ∧ x < 256) : bt (strOfNums l) j = l[j]:=by
 have hs : j < (strOfNums l).size:=by rw [strOfNums_size]; exact hj
 rw [bt_at _ _ hs]
 have hx:=h l[j] (List.getElem_mem hj)
 have e : (strOfNums l)[j]'hs = UInt8.ofNat (l[j]).toNat:=by
  show (strOfNums l).data[j] = _
  simp [strOfNums]
 rw [e,UInt8.toNat_ofNat']
 omega
theorem fixC_lt (n : Int) : ∀ x ∈ fixC n 8,0 ≤ x ∧ x < 256:=fun x hx=>by
 unfold fixC at hx
 obtain ⟨j,_,rfl⟩:=List.mem_map.1 hx
 split <;> omega
theorem bt_fix8 (n : Int) {j : Nat} (hj : j < 8) : bt (fix8 n) j = n / 2 ^ (8 * (7 - j)) % 256:=by
 unfold fix8
 rw [bt_str (by rw [fixC_len]; exact hj) (fixC_lt n)]
 simp [fixC]
theorem numT_fix8 {n : Int} (h0 : 0 ≤ n) (h1 : n < 18446744073709551616) : ∀ i,i ≤ 8 → numT (fix8 n) i = n / 2 ^ (8 * (8 - i))
 | 0,_=>by
  rw [numT]
  show 0 = n / 18446744073709551616
  omega
 | i + 1,hi=>by
  rw [numT,numT_fix8 h0 h1 i (by omega),bt_fix8 n (by omega)]
  have e1 : 8 * (8 - i) = 8 * (7 - i) + 8:=by omega
  have e2 : 8 * (8 - (i + 1)) = 8 * (7 - i):=by omega
  rw [e2,e1,Int.pow_add,← Int.ediv_ediv_of_nonneg (by exact Int.pow_nonneg (by decide))]
  generalize n / 2 ^ (8 * (7 - i)) = m
  have : (2 : Int) ^ 8 = 256:=by decide
  omega
theorem numT_fix8' {n : Int} (h : U64 n) : numT (fix8 n) (fix8 n).size = n:=by
 rw [fix8_size,numT_fix8 h.1 h.2 8 (Nat.le_refl _)]
 simp
theorem rawNum_fix8 {n : Int} (h : numOk n) : rawNum (fix8 n) = (n,0):=by
 have hu : U64 n:=⟨by have:=h.1; omega,by have:=h.2; omega⟩
 have hz:=fix8_size n
 have he : (fix8 n).extract 0 (0 + 8) = fix8 n:=by
  have : 0 + 8 = (fix8 n).size:=by rw [hz]
  rw [this]; exact ByteArray.extract_zero_size
 have ht : takeS (fix8 n) 0 0 8 = (fix8 n,8,0):=by
  unfold takeS
  rw [if_neg (by decide),if_neg (by omega),he]
 have hf : fixedS (fix8 n) 0 0 = (n,8,0):=by
  unfold fixedS
  rw [ht]
  simp only
  rw [numT_fix8' hu]
 unfold rawNum
 rw [hf]
 simp only [hz]
 have hw : IntKind.i64.wrap n = n:=by rw [IntKind.wrap_i64]; have:=h.1; have:=h.2; omega
 rw [hw]
 simp
theorem isNum_fix8 {n : Int} (h : numOk n) : isNum (fix8 n):=by
 unfold isNum
 rw [rawNum_fix8 h]
 exact ⟨h,rfl⟩
/-- The key of the next number. -/
def keyN : ByteArray:=strOfNums [110]
theorem parse_nxt {s : ByteArray} (h : parseK s = some .nxt) : s = keyN:=by
 unfold parseK at h
 by_cases hk : isKey s
 ·rw [dif_pos hk] at h
  have h1 : (rawKey s).1 = 110:=by
   by_cases e : (rawKey s).1 = 110
   ·exact e
   ·rw [if_neg e] at h
    injection h with h
    split at h
    ·cases h
    ·split at h
     ·cases h
     ·split at h <;> cases h
  have h2:=hk.2.2
  rw [h1] at h2
  unfold keyText at h2
  rw [if_pos rfl] at h2
  exact h2.symm
 ·rw [dif_neg hk] at h; cases h
end Go.Proofs.YtpboohfofodeeaaGreatDoor
/- Keys written and read back, plainly (conditions: none). -/
namespace Go.Proofs.YtpboohfofodeeaaGreatDoor
open Go.RowKit Go.Maps
theorem mid_ {A F R : ByteArray} (hA : A.size = 1) (hF : F.size = 8) : ((A ++ F) ++ R).extract 1 9 = F:=by
 rw [ByteArray.append_assoc]
 have h:=ByteArray.extract_append_size_add (a:=A) (b:=F ++ R) (i:=0) (j:=8)
 rw [hA] at h
 rw [h]
 exact ByteArray.extract_append_eq_left hF.symm
theorem end_ {A R : ByteArray} (hA : A.size = 9) : (A ++ R).extract 9 (A ++ R).size = R:=
 ByteArray.extract_append_eq_right hA.symm (ByteArray.size_append)
theorem bt_left {A R : ByteArray} {j : Nat} (h : j < A.size) : bt (A ++ R) j = bt A j:=by
 rw [bt_at _ _ (by rw [ByteArray.size_append]; omega),bt_at _ _ h,ByteArray.getElem_append_left h]
theorem numS_size9 (kind n : Int) : (numS kind n).size = 9:=by
 unfold numS
 rw [ByteArray.size_append,fix8_size,strOfNums_size]
 rfl
theorem byte_numS {kind ino : Int} (R : ByteArray) (hk : 0 ≤ kind ∧ kind < 256) : byteS (numS kind ino ++ R) 0 0 = (kind,1,0):=by
 have hz : (numS kind ino ++ R).size = 9 + R.size:=by rw [ByteArray.size_append,numS_size9]
 unfold byteS
 rw [if_neg (by decide),if_neg (by omega),bt_left (by rw [numS_size9]; decide)]
 unfold numS
 rw [bt_left (by rw [strOfNums_size]; exact Nat.zero_lt_one),bt_str (by simp) (by simpa using hk)]
 rfl
theorem fixed_numS {kind ino : Int} (R : ByteArray) (hi : 0 ≤ ino ∧ ino ≤ 1099511627776) : fixedS (numS kind ino ++ R) 1 0 = (ino,9,0):=by
 have hz : (numS kind ino ++ R).size = 9 + R.size:=by rw [ByteArray.size_append,numS_size9]
 have hw : IntKind.u64.wrap ino = ino:=by rw [IntKind.wrap_u64]; omega
 have hu : U64 ino:=⟨hi.1,by omega⟩
 have he : (numS kind ino ++ R).extract 1 9 = fix8 ino:=by
  unfold numS
  rw [hw]
  exact mid_ (by rw [strOfNums_size]; rfl) (fix8_size _)
 have ht : takeS (numS kind ino ++ R) 1 0 8 = (fix8 ino,9,0):=by
  unfold takeS
  rw [if_neg (by decide),if_neg (by omega)]
  show ((numS kind ino ++ R).extract 1 9,9,(0 : Int)) = _
  rw [he]
 unfold fixedS
 rw [ht]
 simp only
 rw [numT_fix8' hu]
theorem rawKey_text {kind ino : Int} {name : ByteArray} {ix : Int} (h : keyRight kind ino name ix) : rawKey (keyText kind ino name ix) = (kind,ino,name,ix,0):=by
 have hn : ∀ n : ByteArray,n.size = 0 → n = ⟨#[]⟩:=fun n h=>by
  obtain ⟨⟨l⟩⟩:=n
  cases l with
  | nil=>rfl
  | cons a t=>simp [ByteArray.size] at h
 rcases h with ⟨rfl,rfl,h3,rfl⟩ | ⟨hk,h1,h2,h3,h4,rfl⟩ | ⟨rfl,h1,h2,h3,h4,h5⟩ | ⟨rfl,h1,h2,h3,rfl⟩
 ·rw [hn name h3]
  have hb : byteS (keyText 110 0 ⟨#[]⟩ 0) 0 0 = (110,1,0):=by
   unfold keyText
   rw [if_pos rfl]
   unfold byteS
   rw [if_neg (by decide),if_neg (by rw [strOfNums_size]; decide),bt_str (by decide) (by decide)]
   rfl
  unfold rawKey
  simp only [hb]
  rfl
 ·have hne : kind ≠ 110 ∧ kind ≠ 112 ∧ 0 ≤ kind ∧ kind < 256:=by omega
  have e : keyText kind ino name 0 = numS kind ino ++ name:=by
   unfold keyText
   rw [if_neg hne.1,if_pos hk]
  have hw : IntKind.i64.wrap ino = ino:=by rw [IntKind.wrap_i64]; omega
  have hz : (numS kind ino ++ name).size = 9 + name.size:=by rw [ByteArray.size_append,numS_size9]
  have hx : (numS kind ino ++ name).extract ((numS kind ino ++ name).size - ((numS kind ino ++ name).size - 9)) (numS kind ino ++ name).size = name:=by
   rw [show (numS kind ino ++ name).size - ((numS kind ino ++ name).size - 9) = 9 by omega]
   exact end_ (numS_size9 _ _)
  rw [e]
  unfold rawKey
  simp only [byte_numS name hne.2.2,fixed_numS name ⟨Int.le_of_lt h1,h2⟩,if_neg hne.1,if_neg hne.2.1,if_pos hk,if_true,hw,hx]
 ·rw [hn name h3,keyText_p ino ⟨#[]⟩ ix h4 h5]
  have hw : IntKind.i64.wrap ino = ino:=by rw [IntKind.wrap_i64]; omega
  have hw2 : IntKind.i64.wrap ix = ix:=by rw [IntKind.wrap_i64]; omega
  have hz : (numS 112 ino ++ fix8 ix).size = 17:=by rw [ByteArray.size_append,numS_size9,fix8_size]
  have hg : fixedS (numS 112 ino ++ fix8 ix) 9 0 = (ix,17,0):=by
   have he : (numS 112 ino ++ fix8 ix).extract 9 17 = fix8 ix:=by
    have:=end_ (A:=numS 112 ino) (R:=fix8 ix) (numS_size9 _ _)
    rwa [hz] at this
   have ht : takeS (numS 112 ino ++ fix8 ix) 9 0 8 = (fix8 ix,17,0):=by
    unfold takeS
    rw [if_neg (by decide),if_neg (by omega)]
    show ((numS 112 ino ++ fix8 ix).extract 9 17,17,(0 : Int)) = _
    rw [he]
   unfold fixedS
   rw [ht]
   simp only
   rw [numT_fix8' ⟨h4,by omega⟩]
  unfold rawKey
  simp only [byte_numS (fix8 ix) (show (0 : Int) ≤ 112 ∧ (112 : Int) < 256 by decide),fixed_numS (fix8 ix) ⟨Int.le_of_lt h1,h2⟩,hg,hw,hw2]
  simp
 ·rw [hn name h3]
  have e : keyText 105 ino ⟨#[]⟩ 0 = numS 105 ino ++ ⟨#[]⟩:=by
   unfold keyText
   rw [if_neg (by decide),if_neg (by decide),if_neg (by decide)]
   exact (ByteArray.append_empty).symm
  have hw : IntKind.i64.wrap ino = ino:=by rw [IntKind.wrap_i64]; omega
  rw [e]
  unfold rawKey
  simp only [byte_numS ⟨#[]⟩ (show (0 : Int) ≤ 105 ∧ (105 : Int) < 256 by decide),fixed_numS ⟨#[]⟩ ⟨Int.le_of_lt h1,h2⟩,hw]
  simp
theorem isKey_text {kind ino : Int} {name : ByteArray} {ix : Int} (h : keyRight kind ino name ix) : isKey (keyText kind ino name ix):=by
 unfold isKey
 rw [rawKey_text h]
 exact ⟨rfl,h,rfl⟩
/-- A key that may stand. -/
def KK.ok : KK → Prop
 | .nxt=>True
 | .nd ino=>keyRight 105 ino ⟨#[]⟩ 0
 | .nm s=>keyRight 100 s.1.1 s.1.2 0
 | .pc ino ix=>keyRight 112 ino ⟨#[]⟩ ix
 | .xa ino n=>keyRight 120 ino n 0
theorem textS_ok {kind ino : Int} {name : ByteArray} {ix : Int} (h : keyRight kind ino name ix) : textS_ kind ino name ix = keyText kind ino name ix:=by unfold textS_; rw [if_pos h]
theorem parse_text {k : KK} (h : k.ok) : parseK (kkText k) = some k:=by
 cases k with
 | nxt=>
  have hr : keyRight 110 0 ⟨#[]⟩ 0:=.inl ⟨rfl,rfl,rfl,rfl⟩
  show parseK (textS_ 110 0 ⟨#[]⟩ 0) = _
  rw [textS_ok hr]
  unfold parseK
  rw [dif_pos (isKey_text hr),if_pos (by rw [rawKey_text hr])]
 | nd ino=>
  have hr : keyRight 105 ino ⟨#[]⟩ 0:=h
  show parseK (textS_ 105 ino ⟨#[]⟩ 0) = _
  rw [textS_ok hr]
  unfold parseK
  rw [dif_pos (isKey_text hr)]
  simp only [rawKey_text hr]
  rfl
 | nm s=>
  have hr : keyRight 100 s.1.1 s.1.2 0:=h
  show parseK (textS_ 100 s.1.1 s.1.2 0) = _
  rw [textS_ok hr]
  unfold parseK
  rw [dif_pos (isKey_text hr)]
  simp only [rawKey_text hr]
  rfl
 | pc ino ix=>
  have hr : keyRight 112 ino ⟨#[]⟩ ix:=h
  show parseK (textS_ 112 ino ⟨#[]⟩ ix) = _
  rw [textS_ok hr]
  unfold parseK
  rw [dif_pos (isKey_text hr)]
  simp only [rawKey_text hr]
  rfl
 | xa ino n=>
  have hr : keyRight 120 ino n 0:=h
  show parseK (textS_ 120 ino n 0) = _
  rw [textS_ok hr]
  unfold parseK
  rw [dif_pos (isKey_text hr)]
  simp only [rawKey_text hr]
  rfl
end Go.Proofs.YtpboohfofodeeaaGreatDoor
/- Files, plainly: a list of all the items; its next number (conditions: none). -/
namespace Go.Proofs.YtpboohfofodeeaaGreatDoor
open Go.RowKit Go.Maps
/-- A list of all the items, in order. -/
def ItemsOf (fs : FS) (L : List (ByteArray × ByteArray)) : Prop:=∃ R : List (KK × ByteArray),R.Nodup ∧ (∀ q,q ∈ R ↔ HasIt fs q) ∧ L.Perm (R.map itx) ∧ L.Pairwise (fun a b=>¬ btLt b.1 a.1)
theorem ItemsOf.mem {fs : FS} {L : List (ByteArray × ByteArray)} (h : ItemsOf fs L) (x : ByteArray × ByteArray) : x ∈ L ↔ ∃ q,HasIt fs q ∧ itx q = x:=by
 obtain ⟨R,_,h2,h3,_⟩:=h
 rw [h3.mem_iff,List.mem_map]
 exact ⟨fun ⟨q,hq,e⟩=>⟨q,(h2 q).1 hq,e⟩,fun ⟨q,hq,e⟩=>⟨q,(h2 q).2 hq,e⟩⟩
theorem text_nxt {k : KK} (h : kkText k = keyN) : k = .nxt:=by
 have hz : (kkText k).size = 1:=by rw [h]; rfl
 cases k with
 | nxt=>rfl
 | nd ino=>
  have hz : (textS_ 105 ino ⟨#[]⟩ 0).size = 1:=hz
  unfold textS_ keyText at hz
  split at hz
  ·rw [if_neg (by decide),if_neg (by decide),if_neg (by decide),numS_size9] at hz; omega
  ·cases hz
 | nm s=>
  have hz : (textS_ 100 s.1.1 s.1.2 0).size = 1:=hz
  unfold textS_ keyText at hz
  split at hz
  ·rw [if_neg (by decide),if_pos (by decide),ByteArray.size_append,numS_size9] at hz; omega
  ·cases hz
 | pc ino ix=>
  have hz : (textS_ 112 ino ⟨#[]⟩ ix).size = 1:=hz
  unfold textS_ keyText at hz
  split at hz
  ·rw [if_neg (by decide),if_neg (by decide),if_pos rfl,ByteArray.size_append,numS_size9] at hz; omega
  ·cases hz
 | xa ino n=>
  have hz : (textS_ 120 ino n 0).size = 1:=hz
  unfold textS_ keyText at hz
  split at hz
  ·rw [if_neg (by decide),if_pos (by decide),ByteArray.size_append,numS_size9] at hz; omega
  ·cases hz
theorem itS_next {fs fs' : FS} {k v : ByteArray} (h : itS fs k v = some fs') : (parseK k = some .nxt ∧ isNum v ∧ fs'.next = (rawNum v).1) ∨ (parseK k ≠ some .nxt ∧ fs'.next = fs.next):=by
 unfold itS at h
 cases hp : parseK k with
 | none=>rw [hp] at h; cases h
 | some kk=>
  rw [hp] at h
  cases kk with
  | nxt=>simp only at h; split at h <;> cases h; rename_i hn; exact .inl ⟨rfl,hn,rfl⟩
  | nd ino=>simp only at h; split at h <;> cases h; exact .inr ⟨by simp,rfl⟩
  | nm s=>simp only at h; split at h <;> cases h; exact .inr ⟨by simp,rfl⟩
  | pc ino ix=>simp only at h; split at h <;> cases h; exact .inr ⟨by simp,rfl⟩
  | xa ino name=>
   simp only at h; split at h
   ·cases h
   ·split at h <;> cases h; exact .inr ⟨by simp,rfl⟩
theorem take_next0 : ∀ {l : List (ByteArray × ByteArray)} {fs fs' : FS} {p : Option ByteArray},takeL fs p l = some fs' → (fs'.next = fs.next ∧ ∀ x ∈ l,parseK x.1 ≠ some .nxt) ∨ ∃ x ∈ l,parseK x.1 = some .nxt ∧ isNum x.2 ∧ fs'.next = (rawNum x.2).1
 | [],fs,fs',p,h=>by
  have : fs = fs':=by simpa [takeL] using h
  subst this
  exact .inl ⟨rfl,by simp⟩
 | x :: t,fs,fs',p,h=>by
  rw [takeL] at h
  split at h
  ·cases h
  ·cases hi : itS fs x.1 x.2 with
   | none=>rw [hi] at h; cases h
   | some fs1=>
    rw [hi] at h
    rcases take_next0 h with ⟨h1,h2⟩ | ⟨y,hy,h3⟩
    ·rcases itS_next hi with ⟨h4,h5,h6⟩ | ⟨h4,h5⟩
     ·exact .inr ⟨x,by simp,h4,h5,h1.trans h6⟩
     ·exact .inl ⟨h1.trans h5,fun y hy=>by
       rcases List.mem_cons.1 hy with rfl | hy
       ·exact h4
       ·exact h2 y hy⟩
    ·exact .inr ⟨y,by simp [hy],h3⟩
/-- Taken, the items tell the same next number. -/
theorem take_next {fs fs' : FS} {L : List (ByteArray × ByteArray)} (hL : ItemsOf fs L) {p : Option ByteArray} (h : takeL fs0 p L = some fs') : fs'.next = fs.next:=by
 rcases take_next0 h with ⟨_,h2⟩ | ⟨x,hx,h3,h4,h5⟩
 ·exact absurd (parse_text (k:=.nxt) trivial) (h2 (itx (.nxt,numV fs.next)) ((hL.mem _).2 ⟨(.nxt,numV fs.next),rfl,rfl⟩))
 ·obtain ⟨q,hq,rfl⟩:=(hL.mem x).1 hx
  obtain ⟨k,v⟩:=q
  obtain rfl:=text_nxt (parse_nxt h3)
  have hv : v = numV fs.next:=hq
  have h4 : isNum v:=h4
  have h5 : fs'.next = (rawNum v).1:=h5
  by_cases hn : numOk fs.next
  ·have e : v = fix8 fs.next:=by rw [hv]; unfold numV; rw [if_pos hn]
   rw [h5,e,rawNum_fix8 hn]
  ·have e : v = ⟨#[]⟩:=by rw [hv]; unfold numV; rw [if_neg hn]
   rw [e] at h4
   have:=h4.2
   exact absurd this (by decide +kernel)
end Go.Proofs.YtpboohfofodeeaaGreatDoor
/- Short numbers written and read back, plainly (conditions: none). -/
namespace Go.Proofs.YtpboohfofodeeaaGreatDoor
open Go.RowKit Go.Maps
theorem scan_sh (s : ByteArray) (was : Nat) : ∀ (f i : Nat) (acc n : Int),0 ≤ n → (0 < n ∨ i = 0) → n * 128 ^ i < 9223372036854775808 → i + f = 9 → was + i + (shF f n).length ≤ s.size → (∀ j (hj : j < (shF f n).length),bt s (was + i + j) = (shF f n)[j]) →
 scanS s was (f + 1) i acc = (acc + n * 128 ^ i,was + i + (shF f n).length,0):=by
 intro f
 induction f with
 | zero=>
  intro i acc n h0 h1 h2 h3 h4 h5
  obtain rfl : i = 9:=by omega
  have h9 : (128 : Int) ^ 9 = 9223372036854775808:=by decide
  rw [h9] at h2
  omega
 | succ f ih=>
  intro i acc n h0 h1 h2 h3 h4 h5
  have hne : ¬ was + i = s.size:=by
   have:=(shF_len (f + 1) n).1
   omega
  by_cases hn : n < 128
  ·have hs : shF (f + 1) n = [n]:=shF_small _ _ hn
   have hb : bt s (was + i) = n:=by
    have:=h5 0 (by rw [hs]; simp)
    simpa [hs] using this
   rw [hs]
   rw [scanS,if_neg hne,hb,if_neg (by omega),if_pos hn]
   simp
  ·have hs : shF (f + 1) n = (n % 128 + 128) :: shF f (n / 128):=by rw [shF_more _ _ hn (by omega)]; rfl
   have hb : bt s (was + i) = n % 128 + 128:=by
    have:=h5 0 (by rw [hs]; simp)
    simpa [hs] using this
   rw [scanS,if_neg hne,hb,if_neg (by omega),if_neg (by omega)]
   have hp : (128 : Int) ^ (i + 1) = 128 ^ i * 128:=Int.pow_succ _ _
   have hq : (0 : Int) < 128 ^ i:=Int.pow_pos (by decide)
   have hdm : n / 128 * 128 + n % 128 = n:=by omega
   have hm : n / 128 * 128 ^ (i + 1) + n % 128 * 128 ^ i = n * 128 ^ i:=by
    rw [hp,Int.mul_comm (128 ^ i) 128,← Int.mul_assoc,← Int.add_mul,hdm]
   have hmn : 0 ≤ n % 128 * 128 ^ i:=Int.mul_nonneg (by omega) (by omega)
   rw [ih (i + 1) _ (n / 128) (by omega) (.inl (by omega)) (by omega) (by omega) (by rw [hs] at h4; simp only [List.length_cons] at h4; omega) (fun j hj=>by
    have:=h5 (j + 1) (by rw [hs]; simpa using hj)
    simp only [hs,List.getElem_cons_succ] at this
    rw [← this]
    congr 1
    omega)]
   rw [hs]
   simp only [List.length_cons,Prod.mk.injEq,and_true]
   refine ⟨?_,by omega⟩
   rw [show n % 128 + 128 - 128 = n % 128 by omega]
   omega
theorem shF_lt : ∀ (f : Nat) (n : Int),0 ≤ n → n < 128 ^ (f + 1) → ∀ x ∈ shF f n,0 ≤ x ∧ x < 256
 | 0,n,h0,h1,x,hx=>by
  have : shF 0 n = [n]:=rfl
  rw [this] at hx
  have h1 : n < 128:=h1
  obtain rfl:=List.mem_singleton.1 hx
  omega
 | f + 1,n,h0,h1,x,hx=>by
  by_cases hn : n < 128
  ·rw [shF_small _ _ hn] at hx
   obtain rfl:=List.mem_singleton.1 hx
   omega
  ·have hs : shF (f + 1) n = (n % 128 + 128) :: shF f (n / 128):=by rw [shF_more _ _ hn (by omega)]; rfl
   rw [hs] at hx
   rcases List.mem_cons.1 hx with rfl | hx
   ·omega
   ·refine shF_lt f (n / 128) (by omega) ?_ x hx
    rw [Int.pow_succ] at h1
    omega
/-- A short number that stands in a text is read. -/
theorem short_read {A R : ByteArray} {n : Int} (h0 : 0 ≤ n) (h1 : n < 9223372036854775808) : shortS (A ++ (shS n ++ R)) A.size 0 = (n,A.size + (shS n).size,0):=by
 have hz : (shS n).size = (shL n).length:=by unfold shS; rw [strOfNums_size]
 unfold shortS
 rw [if_neg (by decide)]
 have hl : ∀ x ∈ shL n,0 ≤ x ∧ x < 256:=shF_lt 9 n h0 (by
  have : (128 : Int) ^ (9 + 1) = 1180591620717411303424:=by decide
  omega)
 have:=scan_sh (A ++ (shS n ++ R)) A.size 9 0 0 n h0 (.inr rfl) (by simpa using h1) rfl (by
  show A.size + 0 + (shL n).length ≤ _
  rw [ByteArray.size_append,ByteArray.size_append,hz]
  omega) (fun j hj=>by
  have hj : j < (shL n).length:=hj
  show bt (A ++ (shS n ++ R)) (A.size + 0 + j) = (shL n)[j]
  have hjs : j < (shS n).size:=by omega
  rw [bt_at _ _ (by rw [ByteArray.size_append,ByteArray.size_append]; omega)]
  have e1:=ByteArray.getElem_append_right (a:=A) (b:=shS n ++ R) (i:=A.size + 0 + j) (h:=by rw [ByteArray.size_append,ByteArray.size_append]; omega) (by omega)
  rw [e1]
  have e2 : ((shS n ++ R)[A.size + 0 + j - A.size]'(by rw [ByteArray.size_append]; omega)) = (shS n)[j]'hjs:=by
   have : A.size + 0 + j - A.size = j:=by omega
   simp only [this]
   exact ByteArray.getElem_append_left hjs
  rw [e2,← bt_at]
  exact bt_str hj hl)
 rw [this]
 show (0 + n * 128 ^ 0,A.size + 0 + (shL n).length,(0 : Int)) = _
 rw [hz]
 simp
end Go.Proofs.YtpboohfofodeeaaGreatDoor
/- Inodes written and read back, plainly (conditions: none). -/
namespace Go.Proofs.YtpboohfofodeeaaGreatDoor
open Go.RowKit Go.Maps
theorem app_nil (a : ByteArray) : a ++ (⟨#[]⟩ : ByteArray) = a:=ByteArray.append_empty
theorem fixed_read {A R : ByteArray} {u : Int} (hu : U64 u) : fixedS (A ++ (fix8 u ++ R)) A.size 0 = (u,A.size + 8,0):=by
 have hz:=fix8_size u
 have he : (A ++ (fix8 u ++ R)).extract A.size (A.size + 8) = fix8 u:=by
  have h:=ByteArray.extract_append_size_add (a:=A) (b:=fix8 u ++ R) (i:=0) (j:=8)
  rw [show A.size + 0 = A.size by omega] at h
  rw [h]
  exact ByteArray.extract_append_eq_left hz.symm
 have ht : takeS (A ++ (fix8 u ++ R)) A.size 0 8 = (fix8 u,A.size + 8,0):=by
  unfold takeS
  rw [if_neg (by decide),if_neg (by rw [ByteArray.size_append,ByteArray.size_append]; omega),he]
 unfold fixedS
 rw [ht]
 simp only
 rw [numT_fix8' hu]
theorem text_read {A R : ByteArray} {t : ByteArray} (ht : t.size ≤ 100) : textS (A ++ ((shS t.size ++ t) ++ R)) A.size 0 100 = (t,A.size + (shS t.size).size + t.size,0):=by
 have h1:=short_read (A:=A) (R:=t ++ R) (n:=t.size) (by omega) (by omega)
 rw [ByteArray.append_assoc]
 unfold shortS at h1
 rw [if_neg (by decide)] at h1
 unfold textS
 rw [if_neg (by decide)]
 simp only [h1]
 rw [if_neg (by decide),if_neg (by omega),if_neg (by simp only [ByteArray.size_append]; omega)]
 have he : (A ++ (shS t.size ++ (t ++ R))).extract (A.size + (shS t.size).size) (A.size + (shS t.size).size + t.size) = t:=by
  rw [← ByteArray.append_assoc]
  have h:=ByteArray.extract_append_size_add (a:=A ++ shS t.size) (b:=t ++ R) (i:=0) (j:=t.size)
  rw [ByteArray.size_append] at h
  rw [show A.size + (shS t.size).size + 0 = A.size + (shS t.size).size by omega] at h
  rw [h]
  exact ByteArray.extract_append_eq_left rfl
 simp only [Int.toNat_natCast]
 rw [he]
theorem byte_read {k : Int} {R : ByteArray} (hk : 0 ≤ k ∧ k < 256) : byteS (strOfNums [k] ++ R) 0 0 = (k,1,0):=by
 have hz : (strOfNums [k] ++ R).size = 1 + R.size:=by rw [ByteArray.size_append,strOfNums_size]; rfl
 unfold byteS
 rw [if_neg (by decide),if_neg (by omega),bt_left (by rw [strOfNums_size]; exact Nat.zero_lt_one),bt_str (by simp) (by simpa using hk)]
 rfl
theorem wrap_time {t : Int} (h : -9223372036854775808 ≤ t ∧ t ≤ 9223372036854775807) : IntKind.i64.wrap (IntKind.u64.wrap t) = t:=by
 rw [IntKind.wrap_i64,IntKind.wrap_u64]; omega
/-- What an inode's bytes begin with is read. -/
theorem head_read {n : ND} (h : n.right) (R : ByteArray) : byteS (encH n ++ R) 0 0 = (n.kind,1,0) ∧ shortS (encH n ++ R) 1 0 = (n.mode,1 + (shS n.mode).size,0) ∧ fixedS (encH n ++ R) (1 + (shS n.mode).size) 0 = (IntKind.u64.wrap n.time,1 + (shS n.mode).size + 8,0) ∧ shortS (encH n ++ R) (1 + (shS n.mode).size + 8) 0 = (n.links,(encH n).size,0):=by
 obtain ⟨h1,h2,h3,h4,h5⟩:=h
 have hk : 0 ≤ n.kind ∧ n.kind < 256:=by rcases h5 with ⟨e,_⟩ | ⟨e,_⟩ | ⟨e,_⟩ <;> omega
 have hz : (strOfNums [n.kind]).size = 1:=by rw [strOfNums_size]; rfl
 have hz8:=fix8_size (IntKind.u64.wrap n.time)
 have e1 : encH n ++ R = strOfNums [n.kind] ++ (shS n.mode ++ (fix8 (IntKind.u64.wrap n.time) ++ (shS n.links ++ R))):=by
  unfold encH
  simp only [ByteArray.append_assoc]
 have e2 : encH n ++ R = (strOfNums [n.kind] ++ shS n.mode) ++ (fix8 (IntKind.u64.wrap n.time) ++ (shS n.links ++ R)):=by
  rw [e1]; simp only [ByteArray.append_assoc]
 have e3 : encH n ++ R = ((strOfNums [n.kind] ++ shS n.mode) ++ fix8 (IntKind.u64.wrap n.time)) ++ (shS n.links ++ R):=by
  rw [e1]; simp only [ByteArray.append_assoc]
 refine ⟨by rw [e1]; exact byte_read hk,?_,?_,?_⟩
 ·rw [e1]
  have:=short_read (A:=strOfNums [n.kind]) (R:=fix8 (IntKind.u64.wrap n.time) ++ (shS n.links ++ R)) (n:=n.mode) h3 (by omega)
  rwa [hz] at this
 ·rw [e2]
  have:=fixed_read (A:=strOfNums [n.kind] ++ shS n.mode) (R:=shS n.links ++ R) (u64_of n.time)
  rwa [ByteArray.size_append,hz] at this
 ·rw [e3]
  have:=short_read (A:=(strOfNums [n.kind] ++ shS n.mode) ++ fix8 (IntKind.u64.wrap n.time)) (R:=R) (n:=n.links) (by omega) (by omega)
  rw [ByteArray.size_append,ByteArray.size_append,hz,hz8] at this
  rw [this]
  unfold encH
  simp only [ByteArray.size_append,hz,hz8]
/-- An inode that is right is read as it was written. -/
theorem node_read {n : ND} (h : n.right) (ht : -9223372036854775808 ≤ n.time ∧ n.time ≤ 9223372036854775807) : decRaw (encS n) = (n,(encS n).size,0):=by
 obtain ⟨r1,r2,r3,r4⟩:=head_read h (if n.kind = 1 then shS n.size else if n.kind = 3 then shS n.target.size ++ n.target else ⟨#[]⟩)
 have hR:=h
 obtain ⟨h1,h2,h3,h4,h5⟩:=h
 have hm : IntKind.i64.wrap n.mode = n.mode:=by rw [IntKind.wrap_i64]; omega
 have hl : IntKind.i64.wrap n.links = n.links:=by rw [IntKind.wrap_i64]; omega
 have hT:=wrap_time ht
 have hnil : ∀ t : ByteArray,t.size = 0 → t = ⟨#[]⟩:=fun t h=>by
  obtain ⟨⟨l⟩⟩:=t
  cases l with
  | nil=>rfl
  | cons a t=>simp [ByteArray.size] at h
 rcases h5 with ⟨k,z0,z1,tz⟩ | ⟨k,k2,z0,tz⟩ | ⟨k,z0,tb⟩
 ·have e : encS n = encH n ++ shS n.size:=by unfold encS; rw [if_pos k]
  rw [if_pos k] at r1 r2 r3 r4
  have hs : IntKind.i64.wrap n.size = n.size:=by rw [IntKind.wrap_i64]; omega
  have r5 : shortS (encH n ++ shS n.size) (encH n).size 0 = (n.size,(encH n).size + (shS n.size).size,0):=by
   have:=short_read (A:=encH n) (R:=⟨#[]⟩) (n:=n.size) z0 (by omega)
   rwa [app_nil] at this
  rw [e]
  unfold decRaw
  simp only [r1,r2,r3,r4,r5,if_pos k,hm,hl,hT,hs]
  have hn : (⟨n.kind,n.mode,n.time,n.links,n.size,⟨#[]⟩⟩ : ND) = n:=by
   have q:=hnil _ tz
   cases n
   simp only at q
   rw [q]
  rw [hn,ByteArray.size_append]
 ·have e : encS n = encH n ++ ⟨#[]⟩:=by unfold encS; rw [if_neg (by omega),if_neg (by omega)]; exact (app_nil _).symm
  rw [if_neg (by omega),if_neg (by omega)] at r1 r2 r3 r4
  rw [e]
  unfold decRaw
  simp only [r1,r2,r3,r4,if_neg (show ¬ n.kind = 1 by omega),if_neg (show ¬ n.kind = 3 by omega),hm,hl,hT]
  have hn : (⟨n.kind,n.mode,n.time,n.links,0,⟨#[]⟩⟩ : ND) = n:=by
   have q:=hnil _ tz
   cases n
   simp only at q z0
   rw [q,z0]
  rw [hn,app_nil]
 ·have e : encS n = encH n ++ (shS n.target.size ++ n.target):=by unfold encS; rw [if_neg (by omega),if_pos k]
  rw [if_neg (by omega),if_pos k] at r1 r2 r3 r4
  have htz : n.target.size ≤ 100:=by
   unfold targetB at tb
   simp only [Bool.and_eq_true,decide_eq_true_eq] at tb
   exact tb.2.1
  have r5 : textS (encH n ++ (shS n.target.size ++ n.target)) (encH n).size 0 100 = (n.target,(encH n).size + (shS n.target.size).size + n.target.size,0):=by
   have:=text_read (A:=encH n) (R:=⟨#[]⟩) (t:=n.target) htz
   rwa [app_nil] at this
  rw [e]
  unfold decRaw
  simp only [r1,r2,r3,r4,r5,if_neg (show ¬ n.kind = 1 by omega),if_pos k,hm,hl,hT]
  have hn : (⟨n.kind,n.mode,n.time,n.links,0,n.target⟩ : ND) = n:=by
   cases n
   simp only at z0
   rw [z0]
  rw [hn,ByteArray.size_append,ByteArray.size_append,Nat.add_assoc]
end Go.Proofs.YtpboohfofodeeaaGreatDoor
