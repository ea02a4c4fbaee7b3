/- package pack's Reader: Fixed, Short, Text (conditions: the reader is one of its package's make). -/
import Derived.Test.YtpboohfofodeeaaGreatDoorM02
import Derived.RegionTactic
import Derived.Laws.StructEq
import Derived.Deep.RegionHeld3
import Derived.Deep.RegionWith
import Derived.Deep.DeepCutAuto
namespace Go.Proofs.YtpboohfofodeeaaGreatDoor
open Go.RowKit Go.Maps
section
variable {w : World} {r : Nat} {s : ByteArray} {k : Nat} {e0 : Int}
/-- The number of some bytes, the highest first. -/
def numT (t : ByteArray) : Nat → Int
 | 0=>0
 | i + 1=>numT t i * 256 + bt t i
theorem numT_lt (t : ByteArray) (i : Nat) : 0 ≤ numT t i ∧ numT t i < 256 ^ i:=by
 induction i with
 | zero=>simp [numT]
 | succ i ih=>
  have:=bt_range t i
  rw [numT,Int.pow_succ]
  omega
theorem numT_8 (t : ByteArray) (i : Nat) (h : i ≤ 7) : numT t i < 72057594037927936:=by
 have h1:=(numT_lt t i).2
 have h2 : ∀ i : Nat,i < 8 → (256 : Int) ^ i ≤ 72057594037927936:=by decide +kernel
 have h3:=h2 i (by omega)
 omega
/-- What Fixed answers. -/
def fixedS (s : ByteArray) (k : Nat) (e : Int) : Int × Nat × Int:=(let q:=takeS s k e 8; (numT q.1 q.1.size,q.2))
theorem takeS_size (s : ByteArray) (k : Nat) (e : Int) (n : Nat) : (takeS s k e n).1.size ≤ n:=by
 unfold takeS
 split
 ·exact Nat.zero_le _
 ·split
  ·exact Nat.zero_le _
  ·simp [ByteArray.size_extract]; omega
set_option maxRecDepth 100000 in
theorem rd_fixed (h : Rd w r s k e0) (hk : k ≤ s.size) (hs : s.size ≤ 140737488351232) :
 Calls Tryz.prog 97 #[Pa r] w (RdCall w r s (.int .u64 (fixedS s k e0).1) (fixedS s k e0).2.1 (fixedS s k e0).2.2):=by
 have ht:=rd_take h 8 hk hs (by omega)
 have hz:=takeS_size s k e0 8
 unfold fixedS
 generalize takeS s k e0 8 = q at ht hz
 obtain ⟨t,k',e'⟩:=q
 simp only at ht hz ⊢
 have H:=Lib.hid ht
 clear ht h
 go_enter Tryz.func97,Tryz.ntmps97
 go_wp2_with (go_at_call 168; refine H.out.mono ?_; rintro e w' ⟨rfl,hr,hkp⟩)
 have HR:=Lib.hid hr
 clear hr
 go_loop [3,5,10] (fun n _ i=>∃ j : Nat,j ≤ t.size ∧ i = .int .i64 j ∧ n = .int .u64 (numT t j)) (fun _ _ i=>t.size - (intOf i).toNat)
 case atStart=>exact ⟨0,by omega,rfl,rfl⟩
 case round=>
  obtain ⟨j,hj,rfl,rfl⟩:=hrel
  have hn0:=(numT_lt t j).1
  have hb:=bt_range t j
  by_cases hlt : j < t.size
  ·have hn1:=numT_8 t j (by omega)
   have hix:=ix_string t j hlt
   go_wp2
   go_round
   case rel=>exact ⟨j + 1,by omega,by go_num,by simp [numT]⟩
   case measure=>simp [intOf]; omega
  ·obtain rfl : j = t.size:=by omega
   go_wp2
   go_ret
   exact ⟨rfl,HR.out,hkp⟩

/-- A short number that is read: from the place where it begins, the rounds that are left, the round, what is gathered. -/
def scanS (s : ByteArray) (was : Nat) : Nat → Nat → Int → Int × Nat × Int
 | 0,_,_=>(0,was,21)
 | f + 1,i,acc=>
  if was + i = s.size then (0,was,20)
  else if (i = 9 ∧ 1 < bt s (was + i)) ∨ (bt s (was + i) = 0 ∧ 0 < i) then (0,was,21)
  else if bt s (was + i) < 128 then (acc + bt s (was + i) * 128 ^ i,was + i + 1,0)
  else scanS s was f (i + 1) (acc + (bt s (was + i) - 128) * 128 ^ i)
/-- What Short answers. -/
def shortS (s : ByteArray) (k : Nat) (e : Int) : Int × Nat × Int:=if e ≠ 0 then (0,k,e) else scanS s k 10 0 0

theorem rd_wrong {b0 bw : Nat} {was : Nat} (h : Rd w r s k e0) (hb0 : w.cell? ⟨b0,0,none⟩ = some (Pa r)) (hbw : w.cell? ⟨bw,0,none⟩ = some (.int .i64 was)) (e1 : Int) :
 Calls Tryz.prog 223 #[.int .i64 e1,.pointer (some ⟨bw,0,none⟩),.pointer (some ⟨b0,0,none⟩)] w (RdCall w r s (.int .u64 0) was e1):=by
 have c1 : w.cell? ⟨r,1,none⟩ = some (.int .i64 k):=h.cell 1
 have c2 : w.cell? ⟨r,2,none⟩ = some (.int .i64 e0):=h.cell 2
 have f1:=h.frozen 1
 have f2:=h.frozen 2
 have H:=Lib.hid h
 clear h
 go_enter Tryz.func223,Tryz.ntmps223
 go_wp2
 go_region
 all_goals go_wp2
 all_goals go_ret
 all_goals exact ⟨rfl,by simpa [Rd] using ((H.out.set_ 2 (.int .i64 e1)).set_ 1 (.int .i64 was)).drew,(keep_set (keep_set (Keep.refl _ _) _ _) _ _).drew⟩

theorem wraps_u64 (n : Int) (h₀ : 0 ≤ n) (h₁ : n < 2 ^ 64) : IntKind.u64.wrap n = n:=by rw [IntKind.wrap_u64]; omega
theorem u8_and127 (b : Int) (h0 : 0 ≤ b) (h1 : b < 256) : bits .and .u8 b 127 = b % 128:=bits_mask .u8 8 (by decide) wraps_u8 7 (by decide) b h0 h1
theorem pk_join (acc b : Int) (j : Nat) (h0 : 0 ≤ acc) (h1 : acc < 128 ^ j) (hb0 : 0 ≤ b) (hb1 : b < 256) (hj : j ≤ 9) (h9 : j = 9 → b % 128 ≤ 1) :
 bits BinOp.or IntKind.u64 acc (IntKind.u64.wrap (IntKind.u64.wrap (bits BinOp.and IntKind.u8 b 127) * 2 ^ (7 * j))) = acc + b % 128 * 128 ^ j:=by
 rw [u8_and127 b hb0 hb1,wraps_u64 (b % 128) (by omega) (by omega)]
 have hc : ∀ x y,bits BinOp.or IntKind.u64 x y = bits BinOp.or IntKind.u64 y x:=fun x y=>by simp only [bits,BitVec.or_comm]
 have hm : b % 128 < 128:=by omega
 have hm0 : 0 ≤ b % 128:=by omega
 generalize b % 128 = m at *
 have hp : (2 : Int) ^ (7 * j) = 128 ^ j:=by rw [Int.pow_mul]; rfl
 have hle : m * 128 ^ j < 2 ^ 64:=by
  rcases (by omega : j = 9 ∨ j ≤ 8) with rfl | h8
  ·have:=h9 rfl; omega
  ·have h2 : ∀ i : Nat,i < 9 → (128 : Int) ^ i ≤ 72057594037927936:=by decide +kernel
   have h3:=h2 j (by omega)
   have h4 : m * 128 ^ j ≤ 127 * 128 ^ j:=Int.mul_le_mul_of_nonneg_right (by omega) (Int.pow_nonneg (by omega))
   omega
 have hpos : (0 : Int) < 128 ^ j:=Int.pow_pos (by omega)
 have hnn : 0 ≤ m * 128 ^ j:=Int.mul_nonneg hm0 (by omega)
 have hacc : acc < 2 ^ 64:=by
  have h2 : ∀ i : Nat,i < 10 → (128 : Int) ^ i ≤ 9223372036854775808:=by decide +kernel
  have h3:=h2 j (by omega)
  omega
 rw [hp,wraps_u64 _ hnn hle,hc,bits_join .u64 64 (by decide) wraps_u64 (7 * j) _ _ hnn (by rw [hp]; exact Int.mul_emod_left _ _) hle h0 (by rw [hp]; exact h1) hacc]
 omega

/-- The loop's memory: the reader, the two captured variables. -/
structure ShortAt (w : World) (r b0 bw : Nat) (s : ByteArray) (was i : Nat) (acc : Int) (wr : World) : Prop where
 rd : Rd wr r s (was + i) 0
 c0 : wr.cell? ⟨b0,0,none⟩ = some (Pa r)
 cw : wr.cell? ⟨bw,0,none⟩ = some (.int .i64 was)
 kp : Keep (fun i=>i = r) w wr
 eq : scanS s was (10 - i) i acc = scanS s was 10 0 0
 lt : acc < 128 ^ i
 n0 : b0 ≠ r
 nw : bw ≠ r

set_option maxRecDepth 100000 in
set_option maxHeartbeats 1000000 in
theorem rd_short (h : Rd w r s k e0) (hk : k ≤ s.size) (hs : s.size ≤ 140737488351232) :
 Calls Tryz.prog 166 #[Pa r] w (RdCall w r s (.int .u64 (shortS s k e0).1) (shortS s k e0).2.1 (shortS s k e0).2.2):=by
 unfold shortS
 have hlt:=h.lt
 by_cases he : e0 ≠ 0
 ·rw [if_pos he]
  have he' : (e0 != 0) = true:=by simpa using he
  have H:=Lib.hid (h.alloc (.cells #[Pa r] 170))
  clear h he
  go_enter Tryz.func166,Tryz.ntmps166
  go_wp2
  go_step3
  go_wp2_with (go_at_call 169; refine (rd_fails_no H.out he').mono ?_; rintro e w' ⟨rfl,rfl⟩)
  rw [Exit.noGoto_ret]
  go_ret
  exact ⟨rfl,H.out,(Keep.refl _ _).alloc _⟩
 ·rw [if_neg he]
  have he' : e0 = 0:=by simpa using he
  subst he'
  have c1 : w.cell? ⟨r,1,none⟩ = some (.int .i64 k):=h.cell 1
  have H:=Lib.hid (h.alloc (.cells #[Pa r] 170))
  have HH:=Lib.hid h
  clear h he
  go_enter Tryz.func166,Tryz.ntmps166
  go_wp2
  go_step3
  go_wp2_with (go_at_call 169; refine (rd_fails_ok H.out).mono ?_; rintro e w' ⟨rfl,rfl⟩)
  go_step3
  go_wp2
  have hst : ShortAt w r w.heap.size (w.heap.size + 1) s k 0 0 ((w.alloc (.cells #[Pa r] 170)).alloc (.cells #[.int .i64 k] 3)):=by
   have hz : (w.alloc (.cells #[Pa r] 170)).heap.size = w.heap.size + 1:=by simp
   have n1:=Blk.new (w.alloc (.cells #[Pa r] 170)) 3 #[.int .i64 k]
   rw [hz] at n1
   exact ⟨H.out.alloc _,((Blk.new w 170 #[Pa r]).alloc _).cell 0,n1.cell 0,((Keep.refl _ _).alloc _).alloc _,rfl,by simp,by omega,by omega⟩
  have HST:=Lib.hid hst
  clear hst H c1
  generalize hw1 : (w.alloc (.cells #[Pa r] 170)).alloc (.cells #[.int .i64 k] 3) = w1 at *
  clear hw1
  generalize w.heap.size = b0 at *
  go_loopw [3,6] (fun n i wr=>∃ j : Nat,∃ acc : Int,j ≤ 9 ∧ k + j ≤ s.size ∧ 0 ≤ acc ∧ i = .int .i64 j ∧ n = .int .u64 acc ∧ Hid (ShortAt w r b0 (b0 + 1) s k j acc wr)) (fun _ i _=>10 - (intOf i).toNat)
  case atStart=>exact ⟨0,0,by omega,by omega,by omega,rfl,rfl,HST⟩
  case round=>
   clear HST
   obtain ⟨j,acc,hj,hkj,hacc,rfl,rfl,HS⟩:=hrel
   obtain ⟨p,hp1,hp2,HR,HE⟩ : ∃ p,p ≤ k + j ∧ k + j ≤ p ∧ Hid (Rd wr r s p 0) ∧ Hid (scanS s k 10 0 0 = if p = s.size then (0,k,20)
    else if (j = 9 ∧ 1 < bt s p) ∨ (bt s p = 0 ∧ 0 < j) then (0,k,21)
    else if bt s p < 128 then (acc + bt s p * 128 ^ j,p + 1,0)
    else scanS s k (9 - j) (j + 1) (acc + (bt s p - 128) * 128 ^ j)):=by
    refine ⟨k + j,Nat.le_refl _,Nat.le_refl _,Lib.hid HS.out.rd,Lib.hid ?_⟩
    rw [← HS.out.eq,show 10 - j = (9 - j) + 1 from by omega,scanS]
   have d0 : wr.cell? ⟨b0,0,none⟩ = some (Pa r):=HS.out.c0
   have dw : wr.cell? ⟨b0 + 1,0,none⟩ = some (.int .i64 k):=HS.out.cw
   have c0 : wr.cell? ⟨r,0,none⟩ = some (.string s):=HR.out.cell 0
   have c1 : wr.cell? ⟨r,1,none⟩ = some (.int .i64 p):=HR.out.cell 1
   have f1:=HR.out.frozen 1
   by_cases hend : p = s.size
   ·have hq : ((p : Int) == (s.size : Int)) = true:=by simp [hend]
    rw [if_pos hend] at HE
    go_wp2
    go_quiet (fail)
    go_wp2_with (go_at_call 223; refine (rd_wrong (HR.out.drewN nq) HS.out.c0 HS.out.cw _).mono ?_; rintro e w' ⟨rfl,hr,hkp⟩)
    rw [Exit.noGoto_ret]
    go_ret
    rw [HE.out]
    exact ⟨rfl,hr,(HS.out.kp.drewN _).trans hkp (fun _ _ h=>h)⟩
   ·have hq : ((p : Int) == (s.size : Int)) = false:=by simp; omega
    rw [if_neg hend] at HE
    have hix:=ix_string s p (by omega)
    obtain ⟨hb0,hb1⟩:=bt_range s p
    generalize bt s p = b at hix hb0 hb1 HE
    have hR1 : Hid (∀ m,Rd ((wr.drewN m).setCell ⟨r,1,none⟩ (.int .i64 ((p : Int) + 1))) r s (p + 1) 0 ∧ ((wr.drewN m).setCell ⟨r,1,none⟩ (.int .i64 ((p : Int) + 1))).cell? ⟨b0,0,none⟩ = some (Pa r) ∧ ((wr.drewN m).setCell ⟨r,1,none⟩ (.int .i64 ((p : Int) + 1))).cell? ⟨b0 + 1,0,none⟩ = some (.int .i64 k) ∧ Keep (fun i=>i = r) w ((wr.drewN m).setCell ⟨r,1,none⟩ (.int .i64 ((p : Int) + 1)))):=Lib.hid fun m=>
     ⟨by simpa [Rd] using (HR.out.drewN m).set_ 1 (.int .i64 ((p : Int) + 1)),(World.cell?_setCell_other _ _ _ _ (by simp)).trans d0,(World.cell?_setCell_other _ _ _ _ (by simp)).trans dw,keep_set (HS.out.kp.drewN _) _ _⟩
    by_cases hf : (j = 9 ∧ 1 < b) ∨ (b = 0 ∧ 0 < j)
    ·rw [if_pos hf] at HE
     have h9 : ((j : Int) == 9) = true ∧ 1 < b ∨ ((j : Int) == 9) = true ∧ b = 0 ∧ 0 < j ∨ ((j : Int) == 9) = false ∧ b = 0 ∧ 0 < j:=by
      simp only [beq_iff_eq,beq_eq_false_iff_ne,ne_eq]
      omega
     clear hf
     rcases h9 with ⟨h9,hb⟩ | ⟨h9,rfl,hb⟩ | ⟨h9,rfl,hb⟩
     all_goals
      go_wp2
      go_quiet (fail)
      rename Nat=>n1
      go_wp2
      go_quiet (fail)
      rename Nat=>n2
      go_wp2_with (go_at_call 223; refine (rd_wrong (hR1.out (n1 + n2)).1 (hR1.out (n1 + n2)).2.1 (hR1.out (n1 + n2)).2.2.1 _).mono ?_; rintro e w' ⟨rfl,hr,hkp⟩)
      rw [Exit.noGoto_ret]
      go_ret
      rw [HE.out]
      exact ⟨rfl,hr,(hR1.out (n1 + n2)).2.2.2.trans hkp (fun _ _ h=>h)⟩
    ·rw [if_neg hf] at HE
     by_cases hs7 : b < 128
     ·rw [if_pos hs7] at HE
      have h9 : ((j : Int) == 9) = true ∧ b ≤ 1 ∧ (b == 0) = false ∨ ((j : Int) == 9) = false ∧ (b == 0) = true ∧ j ≤ 0 ∨ ((j : Int) == 9) = false ∧ (b == 0) = false:=by
       simp only [beq_iff_eq,beq_eq_false_iff_ne,ne_eq]
       omega
      clear hf
      rcases h9 with ⟨h9,hb,hz⟩ | ⟨h9,hz,hb⟩ | ⟨h9,hz⟩
      all_goals
       go_wp2
       go_quiet (fail)
       rename Nat=>n1
       go_wp2
       go_quiet (fail)
       rename Nat=>n2
       go_wp2
       rw [Exit.noGoto_ret]
       go_ret
       rw [HE.out,pk_join acc b j hacc HS.out.lt hb0 hb1 hj (fun hj9=>by first | omega | (simp [hj9] at h9)),show b % 128 = b from by omega]
       exact ⟨rfl,(hR1.out (n1 + n2)).1,(hR1.out (n1 + n2)).2.2.2⟩
     ·rw [if_neg hs7] at HE
      have h9 : ((j : Int) == 9) = false ∧ (b == 0) = false ∧ j ≤ 8:=by
       simp only [beq_eq_false_iff_ne,ne_eq]
       omega
      clear hf
      obtain ⟨h9,hz,hj8⟩:=h9
      go_wp2
      go_quiet (fail)
      rename Nat=>n1
      go_wp2
      go_quiet (fail)
      rename Nat=>n2
      go_wp2
      go_roundw
      case rel=>
       have ej:=pk_join acc b j hacc HS.out.lt hb0 hb1 hj (fun _=>by omega)
       rw [show b % 128 = b - 128 from by omega] at ej
       rw [ej]
       have hpos : (0 : Int) < 128 ^ j:=Int.pow_pos (by omega)
       have hnn : 0 ≤ (b - 128) * 128 ^ j:=Int.mul_nonneg (by omega) (by omega)
       have hle : (b - 128) * 128 ^ j ≤ 127 * 128 ^ j:=Int.mul_le_mul_of_nonneg_right (by omega) (by omega)
       have hacc2:=HS.out.lt
       obtain ⟨q1,q2,q3,q4⟩:=hR1.out (n1 + n2)
       have hpe : p + 1 = k + (j + 1):=by omega
       rw [hpe] at q1
       refine ⟨j + 1,_,by omega,by omega,by omega,by go_num,rfl,Lib.hid ⟨q1,q2,q3,q4,?_,by rw [Int.pow_succ]; omega,HS.out.n0,HS.out.nw⟩⟩
       rw [show 10 - (j + 1) = 9 - j from by omega,HE.out]
      case measure=>simp [intOf]; omega

/-- What Text answers. -/
def textS (s : ByteArray) (k : Nat) (e : Int) (most : Nat) : ByteArray × Nat × Int:=
 if e ≠ 0 then (⟨#[]⟩,k,e)
 else
  let q:=scanS s k 10 0 0
  if q.2.2 ≠ 0 then (⟨#[]⟩,k,q.2.2)
  else if most < q.1 then (⟨#[]⟩,k,22)
  else if ((s.size - q.2.1 : Nat) : Int) < q.1 then (⟨#[]⟩,k,20)
  else (s.extract q.2.1 (q.2.1 + q.1.toNat),q.2.1 + q.1.toNat,0)
end
end Go.Proofs.YtpboohfofodeeaaGreatDoor
/- package pack's Reader: Text (conditions: the reader is one of its package's make). -/
namespace Go.Proofs.YtpboohfofodeeaaGreatDoor
open Go.RowKit Go.Maps
/-- A short number that was read, or is none. -/
theorem scanS_ends (s : ByteArray) (was : Nat) : ∀ (f i : Nat) (acc : Int),f + i = 10 → was + i ≤ s.size → 0 ≤ acc → acc < 128 ^ i →
 (∃ n k,scanS s was f i acc = (n,k,0) ∧ was + i < k ∧ k ≤ s.size ∧ 0 ≤ n ∧ n < 18446744073709551616) ∨ scanS s was f i acc = (0,was,20) ∨ scanS s was f i acc = (0,was,21):=by
 intro f
 induction f with
 | zero=>intro i acc _ _ _ _; exact .inr (.inr rfl)
 | succ f ih=>
  intro i acc hf hs h0 h1
  unfold scanS
  by_cases he : was + i = s.size
  ·rw [if_pos he]; exact .inr (.inl rfl)
  ·rw [if_neg he]
   by_cases hw : (i = 9 ∧ 1 < bt s (was + i)) ∨ (bt s (was + i) = 0 ∧ 0 < i)
   ·rw [if_pos hw]; exact .inr (.inr rfl)
   ·rw [if_neg hw]
    have hb:=bt_range s (was + i)
    have hpos : (0 : Int) < 128 ^ i:=Int.pow_pos (by omega)
    by_cases h7 : bt s (was + i) < 128
    ·rw [if_pos h7]
     have hnn : 0 ≤ bt s (was + i) * 128 ^ i:=Int.mul_nonneg hb.1 (by omega)
     refine .inl ⟨_,_,rfl,by omega,by omega,by omega,?_⟩
     rcases (by omega : i = 9 ∨ i ≤ 8) with rfl | h8
     ·have : bt s (was + 9) ≤ 1:=by omega
      omega
     ·have h2 : ∀ i : Nat,i < 9 → (128 : Int) ^ i ≤ 72057594037927936:=by decide +kernel
      have h3:=h2 i (by omega)
      have h4 : bt s (was + i) * 128 ^ i ≤ 127 * 128 ^ i:=Int.mul_le_mul_of_nonneg_right (by omega) (by omega)
      omega
    ·rw [if_neg h7]
     have hnn : 0 ≤ (bt s (was + i) - 128) * 128 ^ i:=Int.mul_nonneg (by omega) (by omega)
     have hle : (bt s (was + i) - 128) * 128 ^ i ≤ 127 * 128 ^ i:=Int.mul_le_mul_of_nonneg_right (by omega) (by omega)
     rcases ih (i + 1) _ (by omega) (by omega) (by omega : 0 ≤ acc + (bt s (was + i) - 128) * 128 ^ i) (by rw [Int.pow_succ]; omega) with ⟨n,k,h,a,b,c,d⟩ | h | h
     ·exact .inl ⟨n,k,h,by omega,b,c,d⟩
     ·exact .inr (.inl h)
     ·exact .inr (.inr h)
section
variable {w : World} {r : Nat} {s : ByteArray} {k : Nat} {e0 : Int}
theorem keep2 {r : Nat} {a b c : World} (h : Keep (fun i=>i = r) a b) (k : Keep (fun i=>i = r) b c) : Keep (fun i=>i = r) a c:=h.trans k fun _ _ h=>h
set_option maxRecDepth 100000 in
theorem rd_text (h : Rd w r s k e0) (hk : k ≤ s.size) (hs : s.size ≤ 140737488351232) (most : Nat) (hm : most ≤ 1000000) :
 Calls Tryz.prog 167 #[Pa r,.int .i64 most] w (RdCall w r s (.string (textS s k e0 most).1) (textS s k e0 most).2.1 (textS s k e0 most).2.2):=by
 unfold textS
 by_cases he : e0 ≠ 0
 ·rw [if_pos he]
  have he' : (e0 != 0) = true:=by simpa using he
  have H:=Lib.hid h
  clear h he
  go_enter Tryz.func167,Tryz.ntmps167
  go_wp2_with (go_at_call 169; refine (rd_fails_no H.out he').mono ?_; rintro e w' ⟨rfl,rfl⟩)
  go_ret
  exact ⟨rfl,H.out,Keep.refl _ _⟩
 ·rw [if_neg he]
  have he' : e0 = 0:=by simpa using he
  subst he'
  have hsh:=rd_short h hk hs
  unfold shortS at hsh
  rw [if_neg (by simp)] at hsh
  have hends:=scanS_ends s k 10 0 0 rfl (by omega) (by omega) (by omega)
  have c1 : w.cell? ⟨r,1,none⟩ = some (.int .i64 k):=h.cell 1
  have H:=Lib.hid h
  have HS:=Lib.hid hsh
  clear h he hsh
  rcases hends with ⟨n,k',hq,hkk,hk's,hn0,hn1⟩ | hq
  ·rw [hq] at HS ⊢
   have HN:=Lib.hid hn1
   clear hn1 hq
   simp only [ne_eq,not_true_eq_false,if_false] at HS ⊢
   have hmw : IntKind.u64.wrap (most : Int) = most:=by rw [IntKind.wrap_u64]; omega
   by_cases hl : (most : Int) < n
   ·rw [if_pos hl]
    go_enter Tryz.func167,Tryz.ntmps167
    go_wp2_with (first
     |(go_at_call 169; refine (rd_fails_ok H.out).mono ?_; rintro e w' ⟨rfl,rfl⟩)
     |(go_at_call 166; refine HS.out.mono ?_; rintro e w' ⟨rfl,hr,hkp⟩
       have d0 : w'.cell? ⟨r,0,none⟩ = some (.string s):=hr.cell 0
       have d1 : w'.cell? ⟨r,1,none⟩ = some (.int .i64 k'):=hr.cell 1
       have d2 : w'.cell? ⟨r,2,none⟩ = some (.int .i64 0):=hr.cell 2
       have f1:=hr.frozen 1
       have f2:=hr.frozen 2
       have HR:=Lib.hid hr
       clear hr))
    go_ret
    exact ⟨rfl,by simpa [Rd] using (HR.out.set_ 2 (.int .i64 22)).set_ 1 (.int .i64 k),keep_set (keep_set hkp _ _) _ _⟩
   ·rw [if_neg hl]
    have e1 : IntKind.i64.wrap ((s.size : Int) - k') = (s.size : Int) - k':=IntWalk.i64_in _ (by omega)
    have e2 : IntKind.u64.wrap ((s.size : Int) - k') = (s.size : Int) - k':=by rw [IntKind.wrap_u64]; omega
    have e3 : ((s.size - k' : Nat) : Int) = (s.size : Int) - k':=by omega
    rw [e3]
    by_cases hl2 : (s.size : Int) - k' < n
    ·rw [if_pos hl2]
     go_enter Tryz.func167,Tryz.ntmps167
     go_wp2_with (first
     |(go_at_call 169; refine (rd_fails_ok H.out).mono ?_; rintro e w' ⟨rfl,rfl⟩)
     |(go_at_call 166; refine HS.out.mono ?_; rintro e w' ⟨rfl,hr,hkp⟩
       have d0 : w'.cell? ⟨r,0,none⟩ = some (.string s):=hr.cell 0
       have d1 : w'.cell? ⟨r,1,none⟩ = some (.int .i64 k'):=hr.cell 1
       have d2 : w'.cell? ⟨r,2,none⟩ = some (.int .i64 0):=hr.cell 2
       have f1:=hr.frozen 1
       have f2:=hr.frozen 2
       have HR:=Lib.hid hr
       clear hr))
     go_quiet (fail)
     go_wp2
     go_ret
     exact ⟨rfl,by simpa [Rd] using ((HR.out.drewN nq).set_ 2 (.int .i64 20)).set_ 1 (.int .i64 k),keep_set (keep_set (hkp.drewN _) _ _) _ _⟩
    ·rw [if_neg hl2]
     have e4 : IntKind.i64.wrap n = n:=IntWalk.i64_in _ (by omega)
     have e5 : ((n.toNat : Nat) : Int) = n:=by omega
     have hl3 : decide ((s.size : Int) - k' < n) = false:=by simp; omega
     go_enter Tryz.func167,Tryz.ntmps167
     go_wp2_with (first
     |(go_at_call 169; refine (rd_fails_ok H.out).mono ?_; rintro e w' ⟨rfl,rfl⟩)
     |(go_at_call 166; refine HS.out.mono ?_; rintro e w' ⟨rfl,hr,hkp⟩
       have d0 : w'.cell? ⟨r,0,none⟩ = some (.string s):=hr.cell 0
       have d1 : w'.cell? ⟨r,1,none⟩ = some (.int .i64 k'):=hr.cell 1
       have d2 : w'.cell? ⟨r,2,none⟩ = some (.int .i64 0):=hr.cell 2
       have f1:=hr.frozen 1
       have f2:=hr.frozen 2
       have HR:=Lib.hid hr
       clear hr))
     go_quiet (fail)
     have ht:=rd_take (HR.out.drewN nq) n.toNat hk's hs (by omega)
     unfold takeS at ht
     rw [if_neg (by simp),if_neg (by omega),e5] at ht
     have HT:=Lib.hid ht
     clear ht
     go_wp2_with (go_at_call 168; refine HT.out.mono ?_; rintro e w2 ⟨rfl,hr,hk2⟩)
     go_ret
     exact ⟨rfl,hr,keep2 (hkp.drewN _) hk2⟩
  ·obtain ⟨er,her,hq⟩ : ∃ er : Int,(er != 0) = true ∧ scanS s k 10 0 0 = (0,k,er):=by
    rcases hq with hq | hq
    ·exact ⟨20,rfl,hq⟩
    ·exact ⟨21,rfl,hq⟩
   rw [hq] at HS ⊢
   have her' : er ≠ 0:=by simpa using her
   clear hq
   simp only [ne_eq,her',not_false_eq_true,if_true] at HS ⊢
   clear her'
   go_enter Tryz.func167,Tryz.ntmps167
   go_wp2_with (first
    |(go_at_call 169; refine (rd_fails_ok H.out).mono ?_; rintro e w' ⟨rfl,rfl⟩)
    |(go_at_call 166; refine HS.out.mono ?_; rintro e w' ⟨rfl,hr,hkp⟩
      have d0 : w'.cell? ⟨r,0,none⟩ = some (.string s):=hr.cell 0
      have d1 : w'.cell? ⟨r,1,none⟩ = some (.int .i64 k):=hr.cell 1
      have d2 : w'.cell? ⟨r,2,none⟩ = some (.int .i64 er):=hr.cell 2
      have f1:=hr.frozen 1
      have f2:=hr.frozen 2
      have HR:=Lib.hid hr
      clear hr))
   go_ret
   exact ⟨rfl,by simpa [Rd] using HR.out.set_ 1 (.int .i64 k),keep_set hkp _ _⟩
end
end Go.Proofs.YtpboohfofodeeaaGreatDoor
/- package key: numbered, Make (conditions: none). -/
namespace Go.Proofs.YtpboohfofodeeaaGreatDoor
open Go.RowKit Go.Maps
/-- A number of 64 bits, as eight bytes. -/
def fix8 (n : Int) : ByteArray:=strOfNums (fixC n 8)
theorem fix8_size (n : Int) : (fix8 n).size = 8:=by rw [fix8,strOfNums_size,fixC_len]
/-- A kind's byte and a number. -/
def numS (kind n : Int) : ByteArray:=strOfNums [kind] ++ fix8 (IntKind.u64.wrap n)
theorem u64_of (n : Int) : U64 (IntKind.u64.wrap n):=by
 rw [IntKind.wrap_u64]
 exact ⟨Int.emod_nonneg _ (by omega),Int.emod_lt_of_pos _ (by omega)⟩
theorem bl_in {w w' : World} {o : Obj} (hb : Below (w.alloc o).drew.heap.size (w.alloc o).drew w') : Below w.heap.size w w':=((Below.refl _ _).alloc (Nat.le_refl _) o).drew.trans (hb.mono (by simp))
theorem bl_out {w w' : World} (hb : Below w.drew.heap.size w.drew w') (o : Obj) : Below w.heap.size w (w'.alloc o):=((Below.refl w.heap.size w).drew.trans hb).alloc hb.size o
theorem cell_in_below {w w' : World} {t : TypeId} {cs : Array Value} {B : Nat} (hb : Below B (w.alloc (.cells cs t)).drew w') (hB : w.heap.size < B) (j : Nat) : w'.cell? ⟨w.heap.size,j,none⟩ = cs[j]?:=
 (hb.cell (p:=⟨w.heap.size,j,none⟩) hB).trans ((Blk.new w t cs).cell j)
theorem cv_one (b : Nat) (x : Int) (W : World) (h : W.cell? ⟨b,0,none⟩ = some (.int .u8 x)) : (convert 195 9 (.slice (some ⟨b,0,none⟩) 1 1)).run Tryz.prog W = .ok (.string (strOfNums [x])) W:=
 run_convert_bytes_arg (P:=Tryz.prog) W 195 5 Tryz.underlying195 Tryz.underlying5 b 0 1 1 [x] rfl (fun i hi=>by
  obtain rfl : i = 0:=by omega
  exact h) 9 Tryz.underlying9
set_option maxRecDepth 100000 in
theorem ky_numbered (kind n : Int) (w : World) :
 Calls Tryz.prog 189 #[.int .u8 kind,.int .i64 n] w fun e w'=>e = .returned (.string (numS kind n)) ∧ Below w.heap.size w w':=by
 have hz : (fix8 (IntKind.u64.wrap n)).size ≤ 8:=Nat.le_of_eq (fix8_size _)
 have hz1 : (strOfNums [kind]).size ≤ 1:=by rw [strOfNums_size]; simp
 have hu:=u64_of n
 unfold numS
 generalize hm : IntKind.u64.wrap n = m at *
 have hcv:=fun b=>cv_one b kind
 have hF : ∀ W,Calls Tryz.prog 62 #[.int .u64 m] W fun e w'=>e = .returned (.string (fix8 m)) ∧ Below W.heap.size W w':=fun W=>pk_fixed m W hu
 generalize fix8 m = f at *
 have HF:=Lib.hid hF
 clear hF hu
 go_enter Tryz.func189,Tryz.ntmps189
 go_wp2
 go_region_with ((go_at_call 62; refine (HF.out _).mono ?_; rintro e w' ⟨rfl,hb⟩; try (have hc:=cell_in_below hb (by simp) 0)))
 all_goals go_wp2
 all_goals go_ret
 all_goals first | exact ⟨rfl,bl_in hb⟩ | exact ⟨rfl,bl_out hb _⟩
end Go.Proofs.YtpboohfofodeeaaGreatDoor
/- package key: Make (conditions: none). -/
namespace Go.Proofs.YtpboohfofodeeaaGreatDoor
open Go.RowKit Go.Maps
theorem keepc {w w' : World} (hb : Below w.heap.size w w') {p : Addr} {v : Value} (hc : w.cell? p = some v) : w'.cell? p = some v:=(hb.cell (World.block_lt_of_cell? w p hc)).trans hc
theorem numS_size (kind n : Int) : (numS kind n).size ≤ 9:=by
 rw [numS,ByteArray.size_append,strOfNums_size,fix8_size]
 simp
theorem toList_nil (t : ByteArray) : (t.toList = []) = (t.size = 0):=by
 rw [toList_eq,← List.length_eq_zero_iff,Array.length_toList]
 rfl
/-- Four cells of a block. -/
def C4 (w : World) (b : Nat) (x0 x1 x2 x3 : Value) : Prop:=w.cell? ⟨b,0,none⟩ = some x0 ∧ w.cell? ⟨b,1,none⟩ = some x1 ∧ w.cell? ⟨b,2,none⟩ = some x2 ∧ w.cell? ⟨b,3,none⟩ = some x3
theorem C4.below {w w' : World} {b : Nat} {x0 x1 x2 x3 : Value} (h : C4 w b x0 x1 x2 x3) (hb : Below w.heap.size w w') : C4 w' b x0 x1 x2 x3:=⟨keepc hb h.1,keepc hb h.2.1,keepc hb h.2.2.1,keepc hb h.2.2.2⟩
theorem C4.of_blk {w : World} {b : Nat} {t : TypeId} {x0 x1 x2 x3 : Value} (h : Blk w b t #[x0,x1,x2,x3]) : C4 w b x0 x1 x2 x3:=⟨h.cell 0,h.cell 1,h.cell 2,h.cell 3⟩
/-- Four cells of a block that are not frozen. -/
def F4 (w : World) (b : Nat) : Prop:=w.frozen? ⟨b,0,none⟩ = false ∧ w.frozen? ⟨b,1,none⟩ = false ∧ w.frozen? ⟨b,2,none⟩ = false ∧ w.frozen? ⟨b,3,none⟩ = false
theorem F4.of_blk {w : World} {b : Nat} {t : TypeId} {cs : Array Value} (h : Blk w b t cs) : F4 w b:=⟨h.frozen 0,h.frozen 1,h.frozen 2,h.frozen 3⟩
/-- A key's value in memory. -/
def keyC (kind ino : Int) (name : ByteArray) (index : Int) : Array Value:=#[.int .u8 kind,.int .i64 ino,.string name,.int .i64 index]
def keyV (kind ino : Int) (name : ByteArray) (index : Int) : Value:=.agg (keyC kind ino name index)
/-- Is it a key? -/
def keyRight (kind ino : Int) (name : ByteArray) (index : Int) : Prop:=
 (kind = 110 ∧ ino = 0 ∧ name.size = 0 ∧ index = 0) ∨ ((kind = 100 ∨ kind = 120) ∧ 0 < ino ∧ ino ≤ 1099511627776 ∧ 0 < name.size ∧ name.size ≤ 255 ∧ index = 0) ∨
 (kind = 112 ∧ 0 < ino ∧ ino ≤ 1099511627776 ∧ name.size = 0 ∧ 0 ≤ index ∧ index < 72057594037927936) ∨ (kind = 105 ∧ 0 < ino ∧ ino ≤ 1099511627776 ∧ name.size = 0 ∧ index = 0)
/-- Its text. -/
def keyText (kind ino : Int) (name : ByteArray) (index : Int) : ByteArray:=
 if kind = 110 then strOfNums [kind] else if kind = 100 ∨ kind = 120 then numS kind ino ++ name else if kind = 112 then numS kind ino ++ fix8 (IntKind.u64.wrap index) else numS kind ino
theorem keyText_p (ino : Int) (name : ByteArray) (index : Int) (h0 : 0 ≤ index) (h1 : index < 72057594037927936) : keyText 112 ino name index = numS 112 ino ++ fix8 index:=by
 have : IntKind.u64.wrap index = index:=by rw [IntKind.wrap_u64]; omega
 unfold keyText
 rw [this]
 rfl
/-- Behind Make's first statement. -/
structure MkAt (w : World) (kind ino : Int) (name : ByteArray) (index : Int) (b5 : Nat) (wx : World) : Prop where
 k1 : Blk wx w.heap.size 99 (keyC kind ino name index)
 k5 : Blk wx b5 99 (keyC kind ino name index)
 lt : w.heap.size < b5
 bl : Below w.heap.size w wx
theorem bl_d {w w0 w2 : World} (h : Below w.heap.size w w0) (hb : Below w0.drew.heap.size w0.drew w2) : Below w.heap.size w w2:=h.drew.trans (hb.mono h.size)
theorem bl_t {w w0 w2 : World} (h : Below w.heap.size w w0) (hb : Below w0.heap.size w0 w2) : Below w.heap.size w w2:=h.trans (hb.mono h.size)
theorem bl_ad {w w0 w2 : World} {o : Obj} (h : Below w.heap.size w w0) (hb : Below (w0.alloc o).drew.heap.size (w0.alloc o).drew w2) : Below w.heap.size w w2:=bl_t h (bl_in hb)
theorem blk_below {w w' : World} {g : Nat} {t : TypeId} {cs : Array Value} (h : Blk w g t cs) (hb : Below w.heap.size w w') : Blk w' g t cs:=(hb.block g h.lt).trans h
set_option maxRecDepth 100000 in
set_option maxHeartbeats 4000000 in
theorem ky_make (ino : Int) (w : World) (kind : Int) (name : ByteArray) (index : Int) (_hs : name.size ≤ 140737488351232) :
 Calls Tryz.prog 118 #[keyV kind ino name index] w fun e w'=>(e = .returned (.tuple #[.string (keyText kind ino name index),.int .i64 0]) ∧ keyRight kind ino name index ∨ e = .returned (.tuple #[.string ⟨#[]⟩,.int .i64 81]) ∧ ¬ keyRight kind ino name index) ∧ Below w.heap.size w w':=by
 unfold keyV keyC
 go_enter Tryz.func118,Tryz.ntmps118
 go_upto_region 1 with fail
 go_cut [4,5] (fun t p wx=>t = .string (numS kind ino) ∧ ∃ b5 : Nat,p = .pointer (some ⟨b5,0,none⟩) ∧ Hid (MkAt w kind ino name index b5 wx))
 case first=>
  have hb0 : Below w.heap.size w (w.alloc (.cells #[.int .u8 kind,.int .i64 ino,.string name,.int .i64 index] 99)):=(Below.refl _ _).alloc (Nat.le_refl _) _
  have hB:=Blk.new w 99 #[.int .u8 kind,.int .i64 ino,.string name,.int .i64 index]
  have hC:=C4.of_blk hB
  generalize w.alloc (.cells #[.int .u8 kind,.int .i64 ino,.string name,.int .i64 index] 99) = w0 at *
  have hlt:=hB.lt
  have hne1 : ¬ w.heap.size = w0.heap.size:=by omega
  have hne2 : ¬ w0.heap.size = w.heap.size:=by omega
  have HC:=Lib.hid hC
  have HB:=Lib.hid hB
  clear hB
  obtain ⟨c0,c1,c2,c3⟩:=hC
  go_region_held3 (fun w'=>w'.cell? ⟨w.heap.size,0,none⟩ = some (.int .u8 kind) ∧ w'.cell? ⟨w.heap.size,1,none⟩ = some (.int .i64 ino) ∧ w'.cell? ⟨w.heap.size,2,none⟩ = some (.string name) ∧ w'.cell? ⟨w.heap.size,3,none⟩ = some (.int .i64 index)) (go_keep)
   (first
    |(go_at_call 189
      refine (ky_numbered _ _ _).mono ?_
      rintro e w2 ⟨rfl,hb2⟩
      have HD : Hid (C4 w2 w.heap.size (.int .u8 kind) (.int .i64 ino) (.string name) (.int .i64 index)):=by first | exact C4.below (w:=w0.drew) HC.out hb2 | exact C4.below HC.out (bl_in hb2)
      have HB2 : Hid (Below w.heap.size w w2):=by first | exact bl_d hb0 hb2 | exact bl_ad hb0 hb2
      have HB1 : Hid (Blk w2 w.heap.size 99 (keyC kind ino name index)):=by first | exact blk_below (w:=w0.drew) HB.out hb2 | exact blk_below HB.out (bl_in hb2)
      first
       |(have HN : Hid (Blk w2 w0.heap.size 99 (keyC 0 0 ⟨#[]⟩ 0)):=blk_below (Blk.new w0 99 (keyC 0 0 ⟨#[]⟩ 0)).drew hb2
         obtain ⟨nc0,nc1,nc2,nc3⟩:=C4.of_blk HN.out
         obtain ⟨nf0,nf1,nf2,nf3⟩:=F4.of_blk HN.out)
       | skip
      have hne3 : ¬ w.heap.size = w2.heap.size:=fun e=>Nat.lt_irrefl _ (Nat.lt_of_lt_of_le HB1.out.lt (Nat.le_of_eq e.symm))
      have hne4 : ¬ w2.heap.size = w.heap.size:=fun e=>hne3 e.symm
      obtain ⟨d0,d1,d2,d3⟩:=HD.out))
  all_goals (go_wp2_with fail; go_meet)
  ·exact ⟨rfl,w2.heap.size,rfl,Lib.hid ⟨HB1.out.alloc _,Blk.new _ _ _,HB1.out.lt,HB2.out.alloc HB2.out.size _⟩⟩
  ·refine ⟨rfl,w0.heap.size,rfl,Lib.hid ⟨(((HB1.out.far (p:=⟨w0.heap.size,0,none⟩) hne1 _).far (p:=⟨w0.heap.size,1,none⟩) hne1 _).far (p:=⟨w0.heap.size,2,none⟩) hne1 _).far (p:=⟨w0.heap.size,3,none⟩) hne1 _,?_,hlt,?_⟩⟩
   ·have:=(((HN.out.set_ 0 (.int .u8 kind)).set_ 1 (.int .i64 ino)).set_ 2 (.string name)).set_ 3 (.int .i64 index)
    simpa [keyC] using this
   ·exact (((HB2.out.setCell (p:=⟨w0.heap.size,0,none⟩) hb0.size _).setCell (p:=⟨w0.heap.size,1,none⟩) hb0.size _).setCell (p:=⟨w0.heap.size,2,none⟩) hb0.size _).setCell (p:=⟨w0.heap.size,3,none⟩) hb0.size _
 case rest=>
  obtain ⟨rfl,b5,rfl,HM⟩:=hcut
  obtain ⟨c0,c1,c2,c3⟩:=C4.of_blk HM.out.k1
  obtain ⟨e0,e1,e2,e3⟩:=C4.of_blk HM.out.k5
  obtain ⟨f0,f1,f2,f3⟩:=F4.of_blk HM.out.k5
  have hlt:=HM.out.lt
  have hne1 : ¬ w.heap.size = b5:=by omega
  have hne2 : ¬ b5 = w.heap.size:=by omega
  have hsz:=numS_size kind ino
  have hbl:=Lib.hid HM.out.bl
  by_cases hk : kind = 105 ∨ kind = 100 ∨ kind = 120
  ·rcases hk with h | h | h
   all_goals
    subst h
    go_wp2
    all_goals go_ret2
    all_goals
     simp only [List.isEmpty_iff,List.isEmpty_eq_false_iff,ne_eq,toList_nil] at *
     refine ⟨?_,?_⟩
     ·first
       | exact .inl ⟨rfl,by unfold keyRight; omega⟩
       | exact .inr ⟨rfl,by unfold keyRight; omega⟩
       |(exfalso; omega)
     ·repeat first
       | exact hbl.out
       | refine Below.setCell ?_ (p:=⟨b5,_,none⟩) (Nat.le_of_lt hlt) _
       | refine Below.drew ?_
       | refine Below.alloc ?_ (by simpa using hbl.out.size) _
  ·by_cases h110 : kind = 110
   ·subst h110
    have hcv:=fun b=>cv_one b 110
    have q0 : ∀ o,(((wc.setCell ⟨b5,0,none⟩ (.int .u8 0)).setCell ⟨b5,1,none⟩ (.int .i64 0)).alloc o).cell? ⟨w.heap.size,0,none⟩ = some (.int .u8 110):=fun o=>(((HM.out.k1.far (p:=⟨b5,0,none⟩) hne1 _).far (p:=⟨b5,1,none⟩) hne1 _).alloc o).cell 0
    have q1 : ∀ o,(((wc.setCell ⟨b5,0,none⟩ (.int .u8 0)).setCell ⟨b5,1,none⟩ (.int .i64 0)).alloc o).cell? ⟨w.heap.size,1,none⟩ = some (.int .i64 ino):=fun o=>(((HM.out.k1.far (p:=⟨b5,0,none⟩) hne1 _).far (p:=⟨b5,1,none⟩) hne1 _).alloc o).cell 1
    have hv : ∀ o,Blk (((wc.setCell ⟨b5,0,none⟩ (.int .u8 0)).setCell ⟨b5,1,none⟩ (.int .i64 0)).alloc o) b5 99 (keyC 0 0 name index):=fun o=>by
     have:=(((HM.out.k5.set_ 0 (.int .u8 0)).set_ 1 (.int .i64 0)).alloc o)
     simpa [keyC] using this
    have r0:=fun o=>(hv o).cell 0
    have r1:=fun o=>(hv o).cell 1
    have r2:=fun o=>(hv o).cell 2
    have r3:=fun o=>(hv o).cell 3
    simp only [keyC,List.getElem?_toArray,List.getElem?_cons_zero,List.getElem?_cons_succ] at r0 r1 r2 r3
    clear hv
    go_wp2
    all_goals go_region
    all_goals go_wp2
    all_goals go_ret2
    all_goals
     simp only [toList_nil] at *
     refine ⟨?_,?_⟩
     ·first
       | exact .inl ⟨rfl,by unfold keyRight; omega⟩
       | exact .inr ⟨rfl,by unfold keyRight; omega⟩
       |(exfalso; omega)
     ·repeat first
       | exact hbl.out
       | refine Below.setCell ?_ (p:=⟨b5,_,none⟩) (Nat.le_of_lt hlt) _
       | refine Below.drew ?_
       | refine Below.alloc ?_ (by simpa using hbl.out.size) _
   ·by_cases h112 : kind = 112
    ·subst h112
     have hz:=Nat.le_of_eq (fix8_size (IntKind.u64.wrap index))
     have HF : Hid (∀ W,Calls Tryz.prog 62 #[.int .u64 (IntKind.u64.wrap index)] W fun e w'=>e = .returned (.string (fix8 (IntKind.u64.wrap index))) ∧ Below W.heap.size W w'):=fun W=>pk_fixed _ W (u64_of index)
     have HW:=Lib.hid ((HM.out.k1.far (p:=⟨b5,0,none⟩) hne1 (.int .u8 0)).far (p:=⟨b5,1,none⟩) hne1 (.int .i64 0))
     have HV:=Lib.hid ((HM.out.k5.set_ 0 (.int .u8 0)).set_ 1 (.int .i64 0))
     have HY : Hid (Below w.heap.size w ((wc.setCell ⟨b5,0,none⟩ (.int .u8 0)).setCell ⟨b5,1,none⟩ (.int .i64 0))):=(hbl.out.setCell (p:=⟨b5,0,none⟩) (Nat.le_of_lt hlt) _).setCell (p:=⟨b5,1,none⟩) (Nat.le_of_lt hlt) _
     go_wp2_with (
      go_at_call 62
      refine (HF.out _).mono ?_
      rintro e w3 ⟨rfl,hb3⟩
      obtain ⟨m0,m1,m2,m3⟩:=C4.of_blk (blk_below HW.out hb3)
      obtain ⟨n0,n1,n2,n3⟩:=C4.of_blk (blk_below HV.out hb3)
      obtain ⟨g0,g1,g2,g3⟩:=F4.of_blk (blk_below HV.out hb3)
      have HX:=Lib.hid (bl_t HY.out hb3)
      clear hb3)
     all_goals go_ret2
     all_goals
      simp only [toList_nil] at *
      refine ⟨?_,?_⟩
      ·first
        | exact .inl ⟨rfl,by unfold keyRight; omega⟩
        | exact .inl ⟨by rw [keyText_p _ _ _ (by omega) (by omega)]; rfl,by unfold keyRight; omega⟩
        | exact .inr ⟨rfl,by unfold keyRight; omega⟩
        |(exfalso; omega)
      ·repeat first
        | exact hbl.out
        | exact HX.out
        | refine Below.setCell ?_ (p:=⟨b5,_,none⟩) (Nat.le_of_lt hlt) _
        | refine Below.drew ?_
        | refine Below.alloc ?_ (by simpa using hbl.out.size) _
    ·have t1 : (kind == 110) = false:=by simpa using h110
     have t2 : (kind == 100) = false:=by simp; omega
     have t3 : (kind == 120) = false:=by simp; omega
     have t4 : (kind == 112) = false:=by simpa using h112
     have t5 : (kind == 105) = false:=by simp; omega
     go_wp2
     all_goals go_ret2
     all_goals
      simp only at *
      refine ⟨?_,?_⟩
      ·first
        | exact .inl ⟨rfl,by unfold keyRight; omega⟩
        | exact .inr ⟨rfl,by unfold keyRight; omega⟩
        |(exfalso; omega)
      ·repeat first
        | exact hbl.out
        | refine Below.setCell ?_ (p:=⟨b5,_,none⟩) (Nat.le_of_lt hlt) _
        | refine Below.drew ?_
        | refine Below.alloc ?_ (by simpa using hbl.out.size) _
end Go.Proofs.YtpboohfofodeeaaGreatDoor
