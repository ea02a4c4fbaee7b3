/- sparse: Write (conditions: none). -/
import Derived.Test.YtpboohfofodeeaaGreatDoorM25
namespace Go.Proofs.YtpboohfofodeeaaGreatDoor
open Go.RowKit Go.Maps
/-- A piece more, or another one. -/
def putP : List (Int × ByteArray) → Int → ByteArray → List (Int × ByteArray)
 | [],t,s=>[(t,s)]
 | p :: r,t,s=>if p.1 < t then p :: putP r t s else if p.1 = t then (t,s) :: r else (t,s) :: p :: r
theorem Rises.tail {p : Int × ByteArray} {r : List (Int × ByteArray)} (h : Rises (p :: r)) : Rises r:=fun a b x y hx hy hab=>h (a + 1) (b + 1) x y (by simpa using hx) (by simpa using hy) (by omega)
theorem Rises.head {p : Int × ByteArray} {r : List (Int × ByteArray)} (h : Rises (p :: r)) : ∀ x ∈ r,p.1 < x.1:=fun x hx=>by
 obtain ⟨a,ha⟩:=List.mem_iff_getElem?.1 hx
 exact h 0 (a + 1) p x (by simp) (by simpa using ha) (by omega)
theorem Rises.cons {p : Int × ByteArray} {r : List (Int × ByteArray)} (h : Rises r) (hp : ∀ x ∈ r,p.1 < x.1) : Rises (p :: r):=fun a b x y hx hy hab=>by
 cases b with
 | zero=>omega
 | succ b=>
  have hy' : r[b]? = some y:=by simpa using hy
  cases a with
  | zero=>
   have hx' : p = x:=by simpa using hx
   subst hx'
   exact hp y (List.mem_of_getElem? hy')
  | succ a=>exact h a b x y (by simpa using hx) hy' (by omega)
theorem putP_mem {t : Int} {s : ByteArray} : ∀ {l : List (Int × ByteArray)} {x : Int × ByteArray},x ∈ putP l t s → x = (t,s) ∨ x ∈ l
 | [],x,h=>by simp [putP] at h; exact .inl h
 | p :: r,x,h=>by
  unfold putP at h
  split at h
  ·rcases List.mem_cons.1 h with rfl | h
   ·exact .inr (by simp)
   ·exact (putP_mem h).imp id (fun h=>by simp [h])
  ·split at h
   ·rcases List.mem_cons.1 h with rfl | h
    ·exact .inl rfl
    ·exact .inr (by simp [h])
   ·rcases List.mem_cons.1 h with rfl | h
    ·exact .inl rfl
    ·exact .inr h
theorem putP_rises {t : Int} {s : ByteArray} : ∀ {l : List (Int × ByteArray)},Rises l → Rises (putP l t s)
 | [],_=>fun a b x y hx hy hab=>by have:=(List.getElem?_eq_some_iff.1 hy).1; simp [putP] at this; omega
 | p :: r,h=>by
  unfold putP
  split
  ·rename_i hlt
   exact (putP_rises h.tail).cons fun x hx=>by
    rcases putP_mem hx with rfl | hx
    ·exact hlt
    ·exact h.head x hx
  ·split
   ·rename_i he
    exact h.tail.cons fun x hx=>by have:=h.head x hx; simp only; omega
   ·rename_i h1 h2
    exact h.cons fun x hx=>by
     rcases List.mem_cons.1 hx with rfl | hx
     ·simp only; omega
     ·have:=h.head x hx; simp only; omega
theorem putP_length {t : Int} {s : ByteArray} : ∀ (l : List (Int × ByteArray)),(putP l t s).length ≤ l.length + 1
 | []=>by simp [putP]
 | p :: r=>by
  unfold putP
  split
  ·have:=putP_length (t:=t) (s:=s) r; simp; omega
  ·split <;> simp
theorem PlaceOf.tail {p : Int × ByteArray} {r : List (Int × ByteArray)} {t : Int} {i : Nat} (h : PlaceOf (p :: r) t (i + 1)) : PlaceOf r t i:=
 ⟨by have:=h.1; simp at this; omega,fun a x hx ha=>h.2.1 (a + 1) x (by simpa using hx) (by omega),fun a x hx ha=>h.2.2 (a + 1) x (by simpa using hx) (by omega)⟩
theorem putP_found {t : Int} {s : ByteArray} : ∀ {l : List (Int × ByteArray)} {i : Nat},PlaceOf l t i → foundB l t i = true → putP l t s = l.set i (t,s)
 | [],i,_,hf=>by simp [foundB] at hf
 | p :: r,0,h,hf=>by
  have hp : p.1 = t:=by simpa [foundB] using hf
  unfold putP
  rw [if_neg (by omega),if_pos hp]
  rfl
 | p :: r,i + 1,h,hf=>by
  have hp:=h.2.1 0 p (by simp) (by omega)
  unfold putP
  rw [if_pos hp,putP_found h.tail (by simpa [foundB] using hf)]
  rfl
theorem putP_new {t : Int} {s : ByteArray} : ∀ {l : List (Int × ByteArray)} {i : Nat},PlaceOf l t i → foundB l t i = false → putP l t s = l.take i ++ (t,s) :: l.drop i
 | [],i,_,hf=>by simp [putP]
 | p :: r,0,h,hf=>by
  have hp : p.1 ≠ t:=by simpa [foundB] using hf
  have h2:=h.2.2 0 p (by simp) (Nat.le_refl _)
  unfold putP
  rw [if_neg (by omega),if_neg hp]
  rfl
 | p :: r,i + 1,h,hf=>by
  have hp:=h.2.1 0 p (by simp) (by omega)
  unfold putP
  rw [if_pos hp,putP_new h.tail (by simpa [foundB] using hf)]
  rfl
/-- The bytes of a piece that stands there, or zeros. -/
def oldB (ps : List (Int × ByteArray)) (ix : Int) : List Int:=match ps.find? (fun p=>p.1 == ix) with
 | some p=>numsOf p.2
 | none=>List.replicate 64 0
theorem oldB_found {ps : List (Int × ByteArray)} {ix : Int} {d : ByteArray} {i : Nat} (hr : Rises ps) (h : ps[i]? = some (ix,d)) : oldB ps ix = numsOf d:=by
 unfold oldB
 have hs : (ps.find? (fun p=>p.1 == ix)).isSome = true:=List.find?_isSome.2 ⟨_,List.mem_of_getElem? h,by simp⟩
 obtain ⟨q,hq⟩:=Option.isSome_iff_exists.1 hs
 rw [hq]
 have h1 : q.1 = ix:=by simpa using List.find?_some hq
 obtain ⟨a,ha⟩:=List.mem_iff_getElem?.1 (List.mem_of_find?_eq_some hq)
 rcases Nat.lt_trichotomy a i with hl | rfl | hl
 ·have:=hr a i q _ ha h hl; omega
 ·rw [h] at ha; cases ha; rfl
 ·have:=hr i a _ q h ha hl; omega
theorem oldB_none {ps : List (Int × ByteArray)} {ix : Int} {i : Nat} (hr : Rises ps) (hp : PlaceOf ps ix i) (hf : foundB ps ix i = false) : oldB ps ix = List.replicate 64 0:=by
 unfold oldB
 have : ps.find? (fun p=>p.1 == ix) = none:=List.find?_eq_none.2 fun p hpm=>by
  obtain ⟨a,ha⟩:=List.mem_iff_getElem?.1 hpm
  have hne : p.1 ≠ ix:=by
   rcases Nat.lt_trichotomy a i with hl | rfl | hl
   ·have:=hp.2.1 a p ha hl; omega
   ·unfold foundB at hf; rw [ha] at hf; simpa using hf
   ·have hil : i < ps.length:=by have:=(List.getElem?_eq_some_iff.1 ha).1; omega
    have h1:=hp.2.2 i _ (List.getElem?_eq_getElem hil) (Nat.le_refl _)
    have:=hr i a _ p (List.getElem?_eq_getElem hil) ha hl
    omega
  simpa using hne
 rw [this]
theorem oldB_len {ps : List (Int × ByteArray)} {ix : Int} (h : ∀ p ∈ ps,p.2.size = 64) : (oldB ps ix).length = 64:=by
 unfold oldB
 cases hq : ps.find? (fun p=>p.1 == ix) with
 | none=>simp
 | some p=>simp only; rw [numsOf_len,h p (List.mem_of_find?_eq_some hq)]
/-- So many bytes go into the piece at a place. -/
def wrN (len : Nat) (off p : Int) : Nat:=min (len - (p - off).toNat) (64 - (p % 64).toNat)
def wrL (off : Int) (data : ByteArray) (out : List (Int × ByteArray)) (p : Int) : List Int:=splice (oldB out (p / 64)) (p % 64).toNat (((numsOf data).drop (p - off).toNat).take (wrN data.size off p))
def wrF (off : Int) (data : ByteArray) : Nat → List (Int × ByteArray) → Int → List (Int × ByteArray)
 | 0,out,_=>out
 | f + 1,out,p=>if p < off + data.size then wrF off data f (putP out (p / 64) (strOfNums (wrL off data out p))) (p + wrN data.size off p) else out
/-- The pieces behind a write. -/
def writeS (off : Int) (data : ByteArray) (ps : List (Int × ByteArray)) : List (Int × ByteArray):=wrF off data (data.size + 1) ps off
theorem wrN_pos {len : Nat} {off p : Int} (h0 : off ≤ p) (h1 : p < off + len) : 1 ≤ wrN len off p:=by
 unfold wrN
 have:=Int.emod_lt_of_pos p (show (0 : Int) < 64 by decide)
 have:=Int.emod_nonneg p (show (64 : Int) ≠ 0 by decide)
 omega
theorem pcCs_take (l : List (Int × ByteArray)) (i : Nat) (h : i ≤ l.length) : (pcCs l).take (i * 2) = pcCs (l.take i) ∧ (pcCs l).drop (i * 2) = pcCs (l.drop i):=by
 have e : pcCs l = pcCs (l.take i) ++ pcCs (l.drop i):=by rw [← pcCs_append,List.take_append_drop]
 have hl : (pcCs (l.take i)).length = i * 2:=by rw [pcCs_len,List.length_take]; omega
 constructor
 ·rw [e,← hl,List.take_left]
 ·rw [e,← hl,List.drop_left]
theorem pcCs_ins (l : List (Int × ByteArray)) (i : Nat) (h : i ≤ l.length) (p : Int × ByteArray) : insC (pcCs l) i [.int .i64 p.1,.string p.2] = pcCs (l.take i ++ p :: l.drop i):=by
 obtain ⟨h1,h2⟩:=pcCs_take l i h
 unfold insC
 rw [h1,h2,pcCs_append]
 simp [pcCs,pcC]
theorem pcCs_set : ∀ (l : List (Int × ByteArray)) (i : Nat) (p : Int × ByteArray),((pcCs l).set (i * 2) (.int .i64 p.1)).set (i * 2 + 1) (.string p.2) = pcCs (l.set i p)
 | [],i,p=>by simp [pcCs]
 | x :: r,0,p=>by simp [pcCs,pcC]
 | x :: r,i + 1,p=>by
  have:=pcCs_set r i p
  simp only [pcCs,List.flatMap_cons,pcC,List.cons_append,List.nil_append,List.set_cons_succ] at this ⊢
  rw [show (i + 1) * 2 = i * 2 + 1 + 1 by omega]
  simp only [List.set_cons_succ]
  rw [this]
def sizeW (size off : Int) (len : Nat) : Int:=if len = 0 then size else max size (off + len)
def WrEnds (w : World) (size off : Int) (data : ByteArray) (ps : List (Int × ByteArray)) (e : Ending) (w' : World) : Prop:=
 (¬ checkP size ps ∧ e = .returned (.tuple #[.slice none 0 0,.int .i64 0,.int .i64 21])) ∨ (checkP size ps ∧ (off < 0 ∨ 4096 < data.size) ∧ e = .returned (.tuple #[.slice none 0 0,.int .i64 0,.int .i64 1])) ∨
 (checkP size ps ∧ (0 ≤ off ∧ data.size ≤ 4096) ∧ 4611686018427387904 - data.size < off ∧ e = .returned (.tuple #[.slice none 0 0,.int .i64 0,.int .i64 130])) ∨
 (checkP size ps ∧ (0 ≤ off ∧ data.size ≤ 4096) ∧ off ≤ 4611686018427387904 - data.size ∧ ∃ v,e = .returned (.tuple #[v,.int .i64 (sizeW size off data.size),.int .i64 0]) ∧ w'.ownsRow w.heap.size 111 2 v (writeS off data ps).length (pcCs (writeS off data ps)))
/-- The list under way. -/
structure WrAt (w wr : World) (off : Int) (data : ByteArray) (ps : List (Int × ByteArray)) (n : Nat) (v : Value) (p : Int) (out : List (Int × ByteArray)) : Prop where
 own : wr.ownsRow w.heap.size 111 2 v out.length (pcCs out)
 bl : Below w.heap.size w wr
 eq : ∃ f : Nat,off + data.size - p ≤ f ∧ wrF off data (f + 1) out p = writeS off data ps
 rises : Rises out
 bd : ∀ x ∈ out,(0 ≤ x.1 ∧ x.1 ≤ 72057594037927936) ∧ x.2.size = 64
 len : out.length ≤ n + (p - off).toNat
theorem wpList_store_none {P : Program} {w w' : World} {ops : Array Oper} {rest : List Oper} {o : Oper} {a : Act} {Q : Exit → Act → World → Prop} (hgd : o.guard = none) (hd : o.dst = none) (t : TypeId) (x u : Operand) (ho : o.op = .store t x u) (y z : Value) (hx : a.eval x = y) (hu : a.eval u = z)
 (hr : (Instr.storeAt t y z).run P w = .ok () w') (h : wpList P ops Q rest a w') : wpList P ops Q (o :: rest) a w:=
 wpList_store_eq hgd t x u ho y z hx hu hr (by rw [hd]; exact h)
theorem slice64l (W : World) (b lo : Nat) (h1 : lo < 64) : (Instr.sliceAt 251 (.pointer (some ⟨b,0,none⟩)) (some (.int .i64 lo)) none none).run Tryz.prog W = .ok (.slice (some ⟨b,lo,none⟩) (64 - lo) (64 - lo)) W:=by
 rw [run_sliceAt_array_l W 251 ⟨b,0,none⟩ (by kernel_rfl) .i64 _ (by omega) (by rw [ar64]; omega),el64,sz_u8]
 simp only [Result.andThen,slicedAt,ar64,Int.toNat_natCast]
 rw [if_neg (by omega),Nat.mul_one]
 have e : (⟨b,0,none⟩ : Addr).add lo = ⟨b,lo,none⟩:=by unfold Addr.add; split <;> simp_all
 rw [e]
/-- The bytes go over. -/
theorem copy_piece {W : World} {b sk dn cnt : Nat} {data : ByteArray} {l L : List Int} (hB : Blk W b 251 (u8s l)) (hl : l.length = 64) (hsk : sk < 64) (hdn : dn ≤ data.size) (hcnt : cnt = min (data.size - dn) (64 - sk)) (hL : L = splice l sk (((numsOf data).drop dn).take cnt)) (ty : TypeId) (dc : Nat) :
 (Builtin.copy_ #[195,9] ty #[.slice (some ⟨b,sk,none⟩) (64 - sk) dc,.string (data.extract dn data.size)]).run Tryz.prog W = .ok (goInt ((cnt : Nat) : Int)) (W.setRow b (u8s L)):=by
 have hz : (data.extract dn data.size).size = data.size - dn:=by rw [ByteArray.size_extract]; omega
 have h:=copy_u8 hB ty sk (64 - sk) dc (data.extract dn data.size) (by rw [hl,hz]; omega)
 rw [hz,← hcnt,numsOf_extract,List.take_of_length_le (l:=numsOf data) (by rw [numsOf_len]; omega),← hL] at h
 exact h
theorem wr_next {w w' : World} {off q : Int} {data : ByteArray} {ps out : List (Int × ByteArray)} {n cnt f' : Nat} {v : Value} {ix : Int} {L : List Int} (hown : w'.ownsRow w.heap.size 111 2 v (putP out ix (strOfNums L)).length (pcCs (putP out ix (strOfNums L)))) (hb : Below w.heap.size w w')
 (hf : wrF off data (f' + 1) (putP out ix (strOfNums L)) (q + cnt) = writeS off data ps) (hf1 : off + data.size - q ≤ ((f' + 1 : Nat) : Int)) (hc : 1 ≤ cnt) (hr : Rises out) (hbd : ∀ x ∈ out,(0 ≤ x.1 ∧ x.1 ≤ 72057594037927936) ∧ x.2.size = 64) (hix : 0 ≤ ix ∧ ix ≤ 72057594037927936) (hL : L.length = 64) (hlen : out.length ≤ n + (q - off).toNat) (hq : off ≤ q) :
 WrAt w w' off data ps n v (q + cnt) (putP out ix (strOfNums L)):=
 ⟨hown,hb,⟨f',by omega,hf⟩,putP_rises hr,fun x hx=>by
  rcases putP_mem hx with rfl | hx
  ·exact ⟨hix,by rw [strOfNums_size,hL]⟩
  ·exact hbd x hx,by have:=putP_length (t:=ix) (s:=strOfNums L) out; omega⟩
set_option maxRecDepth 100000 in
set_option maxHeartbeats 8000000 in
theorem sp_write {w : World} {A : Option Addr} {n c : Nat} {ps : List (Int × ByteArray)} (size off : Int) (data : ByteArray) (hR : RdP w A n ps) (hn : n ≤ 549755813888) (hdz : data.size ≤ 140737488355328) :
 Calls Tryz.prog 113 #[.slice A n c,.int .i64 size,.int .i64 off,.string data] w fun e w'=>WrEnds w size off data ps e w' ∧ Below w.heap.size w w':=by
 have hC:=Lib.hid (sp_check (c:=c) size hR (by omega))
 have HR:=Lib.hid hR
 clear hR
 by_cases hck : checkP size ps
 case neg=>
  have HK:=Lib.hid hck
  clear hck
  go_enter Tryz.func113,Tryz.ntmps113
  go_wp2_with (go_at_call 100; refine hC.out.mono ?_; rintro e w2 ⟨hce,hb2⟩; obtain rfl : e = .returned (.int .i64 21):=(hce.resolve_left (fun h=>HK.out h.1)).2; have HB2:=Lib.hid hb2; clear hce hb2)
  go_ret3
  exact ⟨.inl ⟨HK.out,rfl⟩,HB2.out⟩
 have HK:=Lib.hid hck
 have hbd:=check_bounds hck
 have hrs:=Lib.hid (right_rises hck.2.2)
 have hz_0:=hck.1
 have hz_1:=hck.2.1
 clear hck
 by_cases hbad : off < 0 ∨ 4096 < data.size
 ·have HY : Hid (∀ w',WrEnds w size off data ps (.returned (.tuple #[.slice none 0 0,.int .i64 0,.int .i64 1])) w'):=Lib.hid fun w'=>.inr (.inl ⟨HK.out,hbad,rfl⟩)
  clear hbd
  by_cases h1 : off < 0
  ·clear hbad
   go_enter Tryz.func113,Tryz.ntmps113
   go_wp2_with (go_at_call 100; refine hC.out.mono ?_; rintro e w2 ⟨hce,hb2⟩; obtain rfl : e = .returned (.int .i64 0):=(hce.resolve_right (fun h=>h.1 HK.out)).2; have HB2:=Lib.hid hb2; clear hce hb2)
   go_ret3
   exact ⟨HY.out _,HB2.out⟩
  ·have h3 : (4096 : Int) < data.size:=by omega
   clear hbad
   go_enter Tryz.func113,Tryz.ntmps113
   go_wp2_with (go_at_call 100; refine hC.out.mono ?_; rintro e w2 ⟨hce,hb2⟩; obtain rfl : e = .returned (.int .i64 0):=(hce.resolve_right (fun h=>h.1 HK.out)).2; have HB2:=Lib.hid hb2; clear hce hb2)
   go_ret3
   exact ⟨HY.out _,HB2.out⟩
 have h1 : 0 ≤ off:=by omega
 have h3 : data.size ≤ 4096:=by omega
 clear hbad
 by_cases hfar : 4611686018427387904 - (data.size : Int) < off
 ·have HY : Hid (∀ w',WrEnds w size off data ps (.returned (.tuple #[.slice none 0 0,.int .i64 0,.int .i64 130])) w'):=Lib.hid fun w'=>.inr (.inr (.inl ⟨HK.out,⟨h1,h3⟩,hfar,rfl⟩))
  clear hbd
  go_enter Tryz.func113,Tryz.ntmps113
  go_wp2_with (go_at_call 100; refine hC.out.mono ?_; rintro e w2 ⟨hce,hb2⟩; obtain rfl : e = .returned (.int .i64 0):=(hce.resolve_right (fun h=>h.1 HK.out)).2; have HB2:=Lib.hid hb2; clear hce hb2)
  go_ret3
  exact ⟨HY.out _,HB2.out⟩
 have h4 : off ≤ 4611686018427387904 - (data.size : Int):=by omega
 clear hfar
 have HD : Hid (∀ v w' (out : List (Int × ByteArray)),out = writeS off data ps → w'.ownsRow w.heap.size 111 2 v out.length (pcCs out) → WrEnds w size off data ps (.returned (.tuple #[v,.int .i64 (sizeW size off data.size),.int .i64 0])) w'):=Lib.hid fun v w' out he ho=>.inr (.inr (.inr ⟨HK.out,⟨h1,h3⟩,h4,v,rfl,by rw [← he]; exact ho⟩))
 have hw0 : wrap64 (4611686018427387904 - (data.size : Int)) = 4611686018427387904 - data.size:=by unfold wrap64; omega
 have hw1 : wrap64 (off + data.size) = off + data.size:=by unfold wrap64; omega
 go_enter Tryz.func113,Tryz.ntmps113
 go_wp2_with (first
  |(go_at_call 100; refine hC.out.mono ?_; rintro e w2 ⟨hce,hb2⟩; obtain rfl : e = .returned (.int .i64 0):=(hce.resolve_right (fun h=>h.1 HK.out)).2
    have HB2:=Lib.hid hb2
    have HCL:=Lib.hid (sl_clone (c:=c) (HR.out.below hb2) (by omega))
    clear hce hb2)
  |(go_at_call 180
    refine HCL.out.mono ?_
    rintro e w3 ⟨⟨v,rfl,hown⟩,hb3⟩
    have HA:=Lib.hid (WrAt.mk (w:=w) (wr:=w3) (off:=off) (data:=data) (ps:=ps) (n:=n) (v:=v) (p:=off) (out:=ps) (own_base hown (fun k hk=>Nat.le_trans HB2.out.size (hown.lt k hk).1)) (bl_t HB2.out hb3) ⟨data.size,by omega,rfl⟩ hrs.out hbd (by have:=HR.out.1; omega))
    clear hown hb3))
 go_loopw [13,15] (fun v p wr=>∃ (q : Int) (out : List (Int × ByteArray)),p = .int .i64 q ∧ off ≤ q ∧ q ≤ off + data.size ∧ Hid (WrAt w wr off data ps n v q out)) (fun _ p _=>(off + data.size - intOf p).toNat)
 case atStart=>exact ⟨off,ps,rfl,Int.le_refl _,by omega,HA⟩
 case round=>
  obtain ⟨q,out,rfl,hq0,hq1,HAT⟩:=hrel
  obtain ⟨Ao,qo,rfl⟩:=own_slice HAT.out.own
  have HB:=Lib.hid HAT.out.bl
  by_cases hlt : q < off + data.size
  case neg=>
   have hout : out = writeS off data ps:=by
    obtain ⟨f,_,hf⟩:=HAT.out.eq
    rw [wrF,if_neg hlt] at hf
    exact hf
   have HY:=Lib.hid (HD.out _ wr out hout HAT.out.own)
   clear hout
   generalize out.length = mo at *
   by_cases hd0 : data.size = 0
   ·have he : data.toList.isEmpty = true:=by rw [List.isEmpty_iff,toList_nil]; exact hd0
    have he2 : sizeW size off data.size = size:=by unfold sizeW; rw [if_pos hd0]
    rw [he2] at HY
    clear he2
    go_wp2
    go_ret3
    exact ⟨HY.out,HB.out⟩
   ·have he : data.toList.isEmpty = false:=by rw [← Bool.not_eq_true,List.isEmpty_iff,toList_nil]; exact hd0
    have he2 : sizeW size off data.size = max size (off + data.size):=by unfold sizeW; rw [if_neg hd0]
    rw [he2] at HY
    clear he2
    go_wp2
    go_ret3
    exact ⟨HY.out,HB.out⟩
  obtain ⟨hown,hbw,⟨f,hf1,hf2⟩,hris,hbdo,hlen⟩:=HAT.out
  have hlo : out.length ≤ n + 4096:=by omega
  obtain ⟨f',rfl⟩ : ∃ f',f = f' + 1:=⟨f - 1,by omega⟩
  rw [wrF,if_pos hlt] at hf2
  have hwn1:=wrN_pos hq0 hlt
  have hwn : (wrN data.size off q : Int) = min ((data.size : Int) - (q - off)) (64 - q % 64):=by unfold wrN; omega
  have hl64:=oldB_len (ix:=q / 64) (fun x hx=>(hbdo x hx).2)
  have hLD : wrL off data out q = splice (oldB out (q / 64)) (q % 64).toNat (((numsOf data).drop (q - off).toNat).take (wrN data.size off q)):=rfl
  obtain ⟨ix,hix⟩ : ∃ ix,q / 64 = ix:=⟨_,rfl⟩
  obtain ⟨sk,hsk⟩ : ∃ sk : Nat,q % 64 = (sk : Int):=⟨(q % 64).toNat,by omega⟩
  obtain ⟨dn,hdn⟩ : ∃ dn : Nat,q - off = (dn : Int):=⟨(q - off).toNat,by omega⟩
  have t1 : q.tdiv 64 = ix:=by rw [Int.tdiv_eq_ediv_of_nonneg (by omega)]; exact hix
  have t2 : q.tmod 64 = (sk : Int):=by rw [Int.tmod_eq_emod_of_nonneg (by omega)]; exact hsk
  have t3 : IntKind.i64.wrap ix = ix:=by rw [IntKind.wrap_i64]; omega
  have t4 : wrap64 (q - off) = dn:=by rw [hdn]; unfold wrap64; omega
  have hsk64 : sk < 64:=by omega
  have hixb : 0 ≤ ix ∧ ix ≤ 72057594037927936:=by omega
  rw [hix] at hf2 hl64 hLD
  rw [hsk,Int.toNat_natCast,hdn,Int.toNat_natCast] at hLD
  have hR0:=pc_row hown rfl
  have HF:=Lib.hid (sp_find2 (c:=qo) ix hR0 (by omega) hris (fun x hx=>(hbdo x hx).1) ⟨hixb.1,by omega⟩)
  generalize wrL off data out q = L at hf2 hLD
  generalize wrN data.size off q = cnt at hf2 hLD hwn hwn1
  have HF2:=Lib.hid hf2
  have HLD:=Lib.hid hLD
  have HRI:=Lib.hid hris
  have HBD:=Lib.hid hbdo
  have HO:=Lib.hid hown
  have HR0:=Lib.hid hR0
  clear hf2 hLD hris hbdo hown hbw hR0 hbd
  generalize hmo : out.length = mo at *
  have HMO:=Lib.hid hmo
  clear hmo
  go_upto_region 14 with (
   go_at_call 179
   refine HF.out.mono ?_
   rintro e w4 ⟨⟨st,hpl,rfl⟩,hb4⟩
   have HB4:=Lib.hid (bl_t HB.out hb4)
   have HO4:=Lib.hid (own_keep HO.out (Keep.of_below hb4 (fun _=>False)) (fun _ _ h=>h))
   have HR4:=Lib.hid (HR0.out.below hb4)
   have HPL:=Lib.hid hpl
   clear hb4 hpl)
  have hcnt : cnt = min (data.size - dn) (64 - sk):=by omega
  have hwn2 : q + cnt ≤ off + data.size:=by omega
  have t5 : wrap64 (q + cnt) = q + cnt:=by unfold wrap64; omega
  have hL64 : L.length = 64:=by
   rw [HLD.out,length_splice _ _ _ ?_,hl64]
   rw [hl64,List.length_take,List.length_drop,numsOf_len]
   omega
  have hdn2 : dn ≤ data.size:=by omega
  have hmo2 : mo ≤ 1099511627776:=by omega
  have HLEN:=Lib.hid hlen
  have hsl:=fun W=>slice64l W w4.heap.size sk hsk64
  have HPI:=Lib.hid (fun W=>sp_piece L ix W hL64)
  have hzL : (u8s L).size = 64:=by rw [u8s_size,hL64]
  clear HA HCL HF hC HO HR0 hlen
  go_upto_region 15 with fail
  rw [z64]
  have hB5:=Blk.new w4 251 Z64
  have hb5 : Below w4.heap.size w4 (w4.alloc (.cells Z64 251)):=(Below.refl _ _).alloc (Nat.le_refl _) _
  have HO5:=Lib.hid (HO4.out.alloc (.cells Z64 251))
  have HR5:=Lib.hid (HR4.out.below hb5)
  have HB5:=Lib.hid (bl_t HB4.out hb5)
  have hlt5 : ∀ k,Value.ownBlock (.slice Ao mo qo) = some k → k < w4.heap.size:=fun k hk=>(HO4.out.lt k hk).2
  clear HO4 HR4
  generalize w4.alloc (.cells Z64 251) = w5 at *
  have hlb : w.heap.size ≤ w4.heap.size:=HB4.out.size
  generalize w4.heap.size = b at *
  rcases Bool.eq_false_or_eq_true (foundB out ix st) with hfd | hfd
  ·rw [hfd]
   obtain ⟨p,hp,hpx⟩ : ∃ p,out[st]? = some p ∧ p.1 = ix:=by
    unfold foundB at hfd
    cases h : out[st]? with
    | none=>rw [h] at hfd; cases hfd
    | some p=>rw [h] at hfd; exact ⟨p,rfl,by simpa using hfd⟩
   have hput:=putP_found (s:=strOfNums L) HPL.out hfd
   obtain ⟨px,d⟩:=p
   simp only at hpx
   have hpx':=hpx.symm
   subst hpx'
   have hold:=oldB_found HRI.out hp
   have hstl : st < out.length:=(List.getElem?_eq_some_iff.1 hp).1
   have hst : st < mo:=by rw [← HMO.out]; exact hstl
   have hd64:=(HBD.out _ (List.mem_of_getElem? hp)).2
   simp only at hd64
   obtain ⟨g,cur,rfl,hgb⟩ : ∃ g cur,Ao = some ⟨g,0,none⟩ ∧ w5.heap[g]? = some (.cells cur 111 (0,0)):=by
    rcases HO5.out.2 with ⟨_,h0⟩ | ⟨g',cap,cur,hv,_,hb,_⟩
    ·omega
    ·cases hv
     exact ⟨g',cur,rfl,hb⟩
   obtain ⟨g',o',hl',hA',hc0,hc1⟩:=HR5.out.at_ hst
   obtain ⟨rfl,rfl⟩ : g = g' ∧ 0 = o':=by cases hA'; exact ⟨rfl,rfl⟩
   have hpe : out[st] = (ix,d):=by
    have:=List.getElem?_eq_getElem hl'
    rw [hp] at this
    exact (Option.some.inj this).symm
   rw [hpe] at hc0 hc1
   simp only [Nat.zero_add] at hc0 hc1
   have hgb5 : g < b:=hlt5 g rfl
   have hln : (numsOf d).length = 64:=by rw [numsOf_len,hd64]
   have hz : (u8s (numsOf d)).size = 64:=by rw [u8s_size,hln]
   have HOF:=Lib.hid (sp_of ix d w5 hd64)
   have hLL:=HLD.out
   rw [hold] at hLL
   have HCP:=Lib.hid (fun (W : World) (hB : Blk W b 251 (u8s (numsOf d))) ty dc=>copy_piece (L:=L) hB hln hsk64 hdn2 hcnt hLL ty dc)
   have HPUT:=Lib.hid hput
   have hgne : ¬ g = b:=by omega
   have HHGB:=Lib.hid hgb
   generalize numsOf d = l at *
   generalize hs8 : strOfNums L = s8 at *
   clear hput hp hstl hLL hold hpe hA' hgb
   go_wp2_with fail
   refine HOF.out.mono ?_
   rintro e w6 ⟨rfl,hb6⟩
   have hB6:=blk_below hB5 hb6
   have HS6:=Lib.hid (storeAt64 hz (blk_store (P:=Tryz.prog) hB6 (cs':=u8s l) (by rw [hz,z64_size]) (u8s_one _)))
   have hB7:=hB6.row (cs':=u8s l)
   have hk7 : Keep (fun i=>i = b) w5 (w6.setRow b (u8s l)):=(Keep.of_below hb6 (fun i=>i = b)).row (g:=b) (.inl rfl) _
   generalize w6.setRow b (u8s l) = w7 at *
   have HCP7:=HCP.out w7.drew hB7
   have hB8 : Blk (w7.drew.setRow b (u8s L)) b 251 (u8s L):=Blk.row (w:=w7.drew) hB7
   have hk8 : Keep (fun i=>i = b) w5 (w7.drew.setRow b (u8s L)):=hk7.drew.row (g:=b) (.inl rfl) _
   have HL8:=Lib.hid (loadAt64 hzL (blk_load (P:=Tryz.prog) hB8 hzL))
   generalize w7.drew.setRow b (u8s L) = w8 at *
   have HK8:=Lib.hid hk8
   have HPI8:=Lib.hid (HPI.out w8)
   clear hb6 hB6 hB7 hk7 hB8 hk8
   go_wp2_with (refine wpList_store_none rfl rfl 251 (.tmp 20) (.tmp 66) rfl _ _ rfl rfl HS6.out ?_)
   clear hcnt hwn
   have HS8:=Lib.hid hs8
   clear hs8
   go_region
   all_goals go_wp2_with (first
    |(refine wpList_load_eq rfl 251 (.tmp 20) rfl _ rfl HL8.out ?_)
    |(go_at_call 182; refine HPI8.out.mono ?_; rintro e w9 ⟨rfl,hb9⟩
      have c0 : w9.cell? ⟨g,st * 2,none⟩ = some (.int .i64 ix):=keepc' hb9 (HK8.out.cell hc0 (by simpa using hgne))
      have c1 : w9.cell? ⟨g,st * 2 + 1,none⟩ = some (.string d):=keepc' hb9 (HK8.out.cell hc1 (by simpa using hgne))
      have hg9 : w9.heap[g]? = some (.cells cur 111 (0,0)):=(hb9.block g (Nat.lt_of_lt_of_le (lt_of_heap HHGB.out) HK8.out.size)).trans (HK8.out.heap HHGB.out hgne)
      have f0 : w9.frozen? ⟨g,st * 2,none⟩ = false:=by simp [World.frozen?,hg9]
      have f1 : w9.frozen? ⟨g,st * 2 + 1,none⟩ = false:=by simp [World.frozen?,hg9]
      have HO9:=Lib.hid (own_keep (own_keep HO5.out HK8.out (fun k hk=>by have:=hlt5 k hk; omega)) (Keep.of_below hb9 (fun _=>False)) (fun _ _ h=>h))
      have HB9:=Lib.hid (((HB5.out.trans (HK8.out.to_below (B:=w.heap.size) HB5.out.size (fun i hi=>by omega)))).trans (hb9.mono (Nat.le_trans HB5.out.size HK8.out.size)))
      clear hg9 hb9))
   all_goals
    go_roundw
    ·obtain rfl:=HS8.out
     refine ⟨q + cnt,putP out ix (strOfNums L),rfl,by omega,by have:=hwn2; omega,Lib.hid ?_⟩
     have hgw : w.heap.size ≤ g:=(HO9.out.lt g rfl).1
     have hown:=own_set (own_set HO9.out (i:=st * 2) (by omega) (.int .i64 ix)) (i:=st * 2 + 1) (by omega) (.string (strOfNums L))
     have hb10:=(HB9.out.setCell (p:=⟨g,st * 2,none⟩) hgw (.int .i64 ix)).setCell (p:=⟨g,st * 2 + 1,none⟩) hgw (.string (strOfNums L))
     have hset:=pcCs_set out st (ix,strOfNums L)
     simp only at hset
     rw [hset] at hown
     refine wr_next ?_ hb10 HF2.out hf1 hwn1 HRI.out HBD.out hixb hL64 (by rw [HMO.out]; exact HLEN.out) hq0
     rw [HPUT.out,List.length_set,HMO.out]
     exact hown
    ·simp [intOf]; omega
  ·rw [hfd]
   have hput:=putP_new (s:=strOfNums L) HPL.out hfd
   have hold:=oldB_none HRI.out HPL.out hfd
   have hstm : st ≤ mo:=by rw [← HMO.out]; exact HPL.out.1
   have hLL:=HLD.out
   rw [hold] at hLL
   have hpins:=pcCs_ins out st HPL.out.1 (ix,strOfNums L)
   have HPUT:=Lib.hid hput
   have HPINS:=Lib.hid hpins
   have HCP7:=copy_piece (L:=L) (W:=w5.drew) (show Blk w5.drew b 251 (u8s (List.replicate 64 0)) from hB5) (by simp) hsk64 hdn2 hcnt hLL
   have hB8 : Blk (w5.drew.setRow b (u8s L)) b 251 (u8s L):=Blk.row (w:=w5.drew) hB5
   have hk8 : Keep (fun i=>i = b) w5 (w5.drew.setRow b (u8s L)):=(Keep.refl (fun i=>i = b) w5).drew.row (g:=b) (.inl rfl) _
   have HL8:=Lib.hid (loadAt64 hzL (blk_load (P:=Tryz.prog) hB8 hzL))
   generalize w5.drew.setRow b (u8s L) = w8 at *
   have HK8:=Lib.hid hk8
   have HPI8:=Lib.hid (HPI.out w8)
   have HO8:=Lib.hid (own_keep HO5.out hk8 (fun k hk=>by have:=hlt5 k hk; omega))
   generalize hs8 : strOfNums L = s8 at *
   have HS8:=Lib.hid hs8
   clear hput hold hLL hpins hB8 hk8 hcnt hwn hs8
   go_wp2_with fail
   go_region
   all_goals go_wp2_with (first
    |(refine wpList_load_eq rfl 251 (.tmp 20) rfl _ rfl HL8.out ?_)
    |(go_at_call 182; refine HPI8.out.mono ?_; rintro e w9 ⟨rfl,hb9⟩
      have HO9:=Lib.hid ((own_keep HO8.out (Keep.of_below hb9 (fun _=>False)) (fun _ _ h=>h)).alloc (.cells #[.int .i64 ix,.string s8] 111))
      have hb10 : Below w.heap.size w w9:=(((HB5.out.trans (HK8.out.to_below (B:=w.heap.size) HB5.out.size (fun i hi=>by omega)))).trans (hb9.mono (Nat.le_trans HB5.out.size HK8.out.size)))
      have HB10:=Lib.hid (hb10.alloc hb10.size (.cells #[.int .i64 ix,.string s8] 111))
      have hpn:=Blk.new w9 111 #[.int .i64 ix,.string s8]
      have hne : (Value.slice Ao mo qo).ownBlock ≠ some w9.heap.size:=fun e=>by
       have h1:=hlt5 _ e
       have h2 : w5.heap.size ≤ w9.heap.size:=Nat.le_trans HK8.out.size hb9.size
       have h3:=hB5.lt
       omega
      have HIN:=Lib.hid (sl_insert HO9.out pcC_one hstm hpn hne rfl rfl (by have:=hb10.size; simp; omega) hmo2)
      clear hb9 hb10 hpn hne)
    |(go_at_call 183
      refine HIN.out.mono ?_
      rintro e w11 ⟨v',rfl,hown,hk11⟩
      have HO11:=Lib.hid hown
      have HB11:=Lib.hid (HB10.out.trans (hk11.to_below (B:=w.heap.size) HB10.out.size (fun i hi=>(HO9.out.lt i hi).1)))
      clear hown hk11))
   all_goals
    go_roundw
    ·obtain rfl:=HS8.out
     refine ⟨q + cnt,putP out ix (strOfNums L),rfl,by omega,by have:=hwn2; omega,Lib.hid ?_⟩
     refine wr_next ?_ HB11.out HF2.out hf1 hwn1 HRI.out HBD.out hixb hL64 (by rw [HMO.out]; exact HLEN.out) hq0
     have hln : (out.take st ++ (ix,strOfNums L) :: out.drop st).length = mo + 1:=by
      have h:=HMO.out
      rw [List.length_append,List.length_cons,List.length_take,List.length_drop]
      omega
     rw [HPUT.out,hln,← HPINS.out]
     exact HO11.out
    ·simp [intOf]; omega
end Go.Proofs.YtpboohfofodeeaaGreatDoor
