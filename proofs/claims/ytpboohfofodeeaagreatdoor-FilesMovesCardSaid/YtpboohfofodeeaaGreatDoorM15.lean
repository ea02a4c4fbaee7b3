/- state: Items (conditions: none). -/
import Derived.Test.YtpboohfofodeeaaGreatDoorM14
namespace Go.Proofs.YtpboohfofodeeaaGreatDoor
open Go.RowKit Go.Maps
def ItemsEnds (w : World) (fs : FS) (e : Ending) (w' : World) : Prop:=Below w.heap.size w w' ∧ ∃ (v : Value) (R : List (KK × ByteArray)) (L : List (ByteArray × ByteArray)),e = .returned v ∧ R.Nodup ∧ (∀ q,q ∈ R ↔ HasIt fs q) ∧ L.Perm (R.map itx) ∧ L.Pairwise (fun a b=>¬ btLt b.1 a.1) ∧ w'.ownsRow w.heap.size 59 2 v L.length (itCs L)
structure ItOk (fs : FS) : Prop where
 small : SmallFS fs
 ps : ∀ k a,fs.N k = some a → a.ps.Nodup
 names : namesOk fs
 target : ∀ k a,fs.N k = some a → a.nd.target.size ≤ 140737488351232
 attrs : ∀ k a s v,fs.N k = some a → a.at_ s = some v → s.size ≤ 140737488351232
/-- What is told of a node before its attributes: pieces up to j. -/
def MemP (fs : FS) (P : Int → Prop) (k : Int) (a : NodeA) (j : Nat) (q : KK × ByteArray) : Prop:=(MemK fs P q ∨ q = (.nd k,encV a.nd)) ∨ ∃ p ∈ a.ps.take j,q = (.pc k p.1,p.2)
def MemX (fs : FS) (P : Int → Prop) (k : Int) (a : NodeA) (Q : ByteArray → Prop) (q : KK × ByteArray) : Prop:=MemP fs P k a a.ps.length q ∨ ∃ s v,a.at_ s = some v ∧ Q s ∧ q = (.xa k s,v)
theorem memK_of {fs : FS} {P : Int → Prop} {k : Int} {q : KK × ByteArray} (h : MemK fs P q) (hP : ¬ P k) : q.1 ≠ .nd k ∧ (∀ ix,q.1 ≠ .pc k ix) ∧ ∀ s,q.1 ≠ .xa k s:=by
 rcases h with (rfl | ⟨s,i,_,_,rfl⟩) | ⟨k',a,_,h1,rfl | ⟨p,_,rfl⟩ | ⟨s,v,_,rfl⟩⟩
 ·simp
 ·simp
 all_goals
  have : k' ≠ k:=fun e=>hP (e ▸ h1)
  simp [this]
theorem memX_all {fs : FS} {P P' : Int → Prop} {k : Int} {a : NodeA} {Q : ByteArray → Prop} (hk : fs.N k = some a) (hQ : ∀ s v,a.at_ s = some v → Q s) (hP : ∀ x b,fs.N x = some b → (P' x ↔ P x ∨ x = k)) (q : KK × ByteArray) : MemX fs P k a Q q ↔ MemK fs P' q:=by
 unfold MemX MemP MemK
 constructor
 ·rintro ((((h | ⟨x,b,h1,h2,h3⟩) | rfl) | ⟨p,hp,rfl⟩) | ⟨s,v,h1,_,rfl⟩)
  ·exact .inl h
  ·exact .inr ⟨x,b,h1,(hP x b h1).2 (.inl h2),h3⟩
  ·exact .inr ⟨k,a,hk,(hP k a hk).2 (.inr rfl),.inl rfl⟩
  ·exact .inr ⟨k,a,hk,(hP k a hk).2 (.inr rfl),.inr (.inl ⟨p,List.mem_of_mem_take hp,rfl⟩)⟩
  ·exact .inr ⟨k,a,hk,(hP k a hk).2 (.inr rfl),.inr (.inr ⟨s,v,h1,rfl⟩)⟩
 ·rintro (h | ⟨x,b,h1,h2,h3⟩)
  ·exact .inl (.inl (.inl (.inl h)))
  ·rcases (hP x b h1).1 h2 with h2 | rfl
   ·exact .inl (.inl (.inl (.inr ⟨x,b,h1,h2,h3⟩)))
   ·rw [hk] at h1; cases h1
    rcases h3 with rfl | ⟨p,hp,rfl⟩ | ⟨s,v,h4,rfl⟩
    ·exact .inl (.inl (.inr rfl))
    ·exact .inl (.inr ⟨p,by rw [List.take_length]; exact hp,rfl⟩)
    ·exact .inr ⟨s,v,h4,hQ s v h4,rfl⟩
theorem memX_has {fs : FS} {P : Int → Prop} {k : Int} {a : NodeA} {Q : ByteArray → Prop} (hk : fs.N k = some a) {q : KK × ByteArray} (h : MemX fs P k a Q q) : HasIt fs q:=by
 rcases h with ((h | rfl) | ⟨p,hp,rfl⟩) | ⟨s,v,h1,_,rfl⟩
 ·exact memK_has' h
 ·exact nodeIt_has hk (.inl rfl)
 ·exact nodeIt_has hk (.inr (.inl ⟨p,List.mem_of_mem_take hp,rfl⟩))
 ·exact nodeIt_has hk (.inr (.inr ⟨s,v,h1,rfl⟩))
open Classical in
theorem memN_step {fs : FS} {left : SlotK → Bool} {s : SlotK} {ino : Int} {vv : ByteArray} (hG : fs.G s = some ino) (hv : inoV ino = vv) (q : KK × ByteArray) : (MemN fs (fun x=>left x = false) q ∨ q = (.nm s,vv)) ↔ MemN fs (fun x=>(left x && !(decide (x = s))) = false) q:=by
 unfold MemN
 constructor
 ·rintro ((h | ⟨x,i,h1,h2,h3⟩) | rfl)
  ·exact .inl h
  ·exact .inr ⟨x,i,h1,by simp [h2],h3⟩
  ·exact .inr ⟨s,ino,hG,by simp,by rw [hv]⟩
 ·rintro (h | ⟨x,i,h1,h2,h3⟩)
  ·exact .inl (.inl h)
  ·by_cases e : x = s
   ·subst e
    rw [hG] at h1; cases h1
    rw [hv] at h3
    exact .inr h3
   ·exact .inl (.inr ⟨x,i,h1,by simpa [e] using h2,h3⟩)
theorem ps_few {fs : FS} (ok : ItOk fs) {k : Int} {a : NodeA} (hk : fs.N k = some a) : a.ps.length ≤ 1099511627776:=by
 have h:=ok.small (a.ps.map fun p=>(.pc k p.1,p.2)) ?_ ?_
 ·rw [List.length_map] at h; exact h
 ·rw [List.Nodup,List.pairwise_map]
  refine (ok.ps k a hk).imp ?_
  rintro x y hne e
  injection e with e1 e2
  injection e1 with _ e1
  exact hne (Prod.ext e1 e2)
 ·intro q hq
  obtain ⟨p,hp,rfl⟩:=List.mem_map.1 hq
  exact ⟨a,hk,hp⟩
open Classical in
theorem memX_step {fs : FS} {P : Int → Prop} {k : Int} {a : NodeA} {left : ByteArray → Bool} {s val : ByteArray} (hv : a.at_ s = some val) (q : KK × ByteArray) : (MemX fs P k a (fun x=>left x = false) q ∨ q = (.xa k s,val)) ↔ MemX fs P k a (fun x=>(left x && !(@decide (x = s) (Classical.propDecidable _))) = false) q:=by
 unfold MemX
 constructor
 ·rintro ((h | ⟨x,i,h1,h2,h3⟩) | rfl)
  ·exact .inl h
  ·exact .inr ⟨x,i,h1,by simp [h2],h3⟩
  ·exact .inr ⟨s,val,hv,by simp,rfl⟩
 ·rintro (h | ⟨x,i,h1,h2,h3⟩)
  ·exact .inl (.inl h)
  ·by_cases e : x = s
   ·subst e
    rw [hv] at h1; cases h1
    exact .inr h3
   ·exact .inl (.inr ⟨x,i,h1,by simpa [e] using h2,h3⟩)
set_option maxRecDepth 100000 in
set_option maxHeartbeats 8000000 in
theorem st_items [Fence] {c : Nat} {w : World} {f b m : Nat} {own : Int → Own} {fs : FS} (h : FlsB c w f b m own fs) (ok : ItOk fs) : Calls Tryz.prog 31 #[Pa f] w (ItemsEnds w fs):=by
 obtain ⟨i0,hi,hz0,hz1,hz2⟩:=info_parts info_item
 have c0 : w.cell? ⟨f,0,none⟩ = some (.int .i64 fs.next):=h.blk.cell 0
 have hNUM:=Lib.hid (num_is fs.next w)
 have hT0:=Lib.hid (fun W=>text_is 110 0 ⟨#[]⟩ 0 W (by decide))
 have hk0 : textS_ 110 0 ⟨#[]⟩ 0 = kkText .nxt:=rfl
 rw [hk0] at hT0
 have H:=Lib.hid h
 have OK:=Lib.hid ok
 clear h ok hk0
 generalize hkn : kkText .nxt = kn at *
 generalize hvn : numV fs.next = vn at *
 go_enter Tryz.func31,Tryz.ntmps31
 go_wp2_with (first
  |(go_at_call 60
    refine hNUM.out.mono ?_
    rintro e w1 ⟨⟨er,rfl⟩,hb1⟩
    have HB1:=Lib.hid hb1
    clear hb1)
  |(go_at_call 61
    refine (hT0.out _).mono ?_
    rintro e w2 ⟨rfl,hb2⟩
    have HB2:=Lib.hid (bl_t HB1.out hb2)
    have hof:=out_first w w2 HB2.out.size (.nxt,vn)
    simp only [hkn] at hof
    have hba : Below w2.heap.size w2 (w2.alloc (.cells #[.string kn,.string vn] 59)):=(Below.refl _ _).alloc (Nat.le_refl _) _
    have HO2:=Lib.hid hof
    have HB3:=Lib.hid (bl_t HB2.out hba)
    have hF:=H.out.below HB3.out
    have c2 : (w2.alloc (.cells #[.string kn,.string vn] 59)).cell? ⟨f,2,none⟩ = some (.map (some m)):=hF.blk.cell 2
    obtain ⟨n2,x2,y2⟩:=hF.names
    obtain ⟨w4,hrun,hrg,hgr,hs4⟩:=y2.range_ slot_enc Tryz.underlying89
    have hb34 : Below (w2.alloc (.cells #[.string kn,.string vn] 59)).heap.size (w2.alloc (.cells #[.string kn,.string vn] 59)) w4:=(Keep.of_grown hgr (fun _=>False) (fun k hk=>by cases hk)).to_below (Nat.le_refl _) (fun _ h=>h.elim)
    have HB4:=Lib.hid (bl_t HB3.out hb34)
    have HO4:=Lib.hid (HO2.out.below hb34)
    have e1 : (w2.alloc (.cells #[.string kn,.string vn] 59)).heap.size = w2.heap.size + 1:=by simp
    rw [e1] at hrg
    have HRG:=Lib.hid hrg
    clear hb2 hof hba hF y2 hrg hgr hb34 e1))
 clear hrun c2
 have hr1 : w.heap.size ≤ w2.heap.size + 1:=Nat.le_succ_of_le HB2.out.size
 generalize w2.heap.size + 1 = r1 at *
 generalize Value.slice (some ⟨w2.heap.size,0,none⟩) 1 1 = ov at *
 have HST : Hid (∃ R,OutAt w w4 ov R (MemN fs (fun s=>(fs.G s).isSome = false))):=Lib.hid ⟨_,HO4.out.congr fun q=>by
  unfold MemN
  rw [hvn]
  constructor
  ·intro h; exact .inl h
  ·rintro (h | ⟨s,i,h1,h2,_⟩)
   ·exact h
   ·rw [h1] at h2; cases h2⟩
 have hmlt : m < w.heap.size:=let ⟨_,_,y⟩:=H.out.names; y.lt
 have hblt : b < w.heap.size:=let ⟨_,_,y⟩:=H.out.nodes; y.lt
 clear HO4 HO2
 go_loopw [5,6,7] (fun o _ _ wr=>∃ left cnt R,RngK (fun k : SlotK=>litSl k.1) Tryz.prog 96 wr m r1 (nmV fs.G) n2 left cnt ∧ Below w.heap.size w wr ∧ Hid (OutAt w wr o R (MemN fs (fun s=>left s = false)))) (fun _ _ _ wr=>wr.rangeLeft m r1)
 case atStart=>
  obtain ⟨R,hR⟩:=HST.out
  exact ⟨_,_,R,HRG.out,HB4.out,Lib.hid (hR.congr fun q=>by simp [MemN,nmV])⟩
 case round=>
  obtain ⟨left,cnt,R,hrg,hb,HO⟩:=hrel
  rcases hrg.next_ slot_enc slot_inv 0 with ⟨h0,hl,hN⟩ | ⟨s,v,wn,cnt',hk,hFs,hN,hrg3,hlt,hg2,hs2,hE⟩
  ·have hF:=H.out.below hb
   have d1 : wr.cell? ⟨f,1,none⟩ = some (.map (some b)):=hF.blk.cell 1
   obtain ⟨nn,xn,yn⟩:=hF.nodes
   obtain ⟨w5,hrun5,hrg5,hgr5,hs5⟩:=yn.range_ Tryz.underlying3 Tryz.underlying88
   have hb5 : Below wr.heap.size wr w5:=(Keep.of_grown hgr5 (fun _=>False) (fun k hk=>by cases hk)).to_below (Nat.le_refl _) (fun _ h=>h.elim)
   have hr2 : w.heap.size ≤ wr.heap.size:=hb.size
   have HB5:=Lib.hid (bl_t hb hb5)
   have HST2 : Hid (∃ R,OutAt w w5 u5 R (MemK fs (fun k=>(fs.N k).isSome = false))):=Lib.hid ⟨R,(HO.out.below hb5).congr fun q=>by
    unfold MemK MemN
    constructor
    ·rintro (h | ⟨s,i,h1,_,h3⟩)
     ·exact .inl (.inl h)
     ·exact .inl (.inr ⟨s,i,h1,trivial,h3⟩)
    ·rintro ((h | ⟨s,i,h1,_,h3⟩) | ⟨k,a,h1,h2,_⟩)
     ·exact .inl h
     ·exact .inr ⟨s,i,h1,hl s,h3⟩
     ·rw [h1] at h2; cases h2⟩
   have HRG5:=Lib.hid hrg5
   clear hrg hF yn hrg5 hgr5 hb5 HO hs5 HST HRG
   go_wp2
   clear hrun5 d1 hN
   generalize wr.heap.size = r2 at *
   go_loopw [5,8,9,10,11,13,14,15] (fun o _ _ _ _ _ _ _ wr=>∃ left cnt R,RngI Tryz.prog 3 wr b r2 (fun k=>(fs.N k).map fun _=>ptrG (own k).g) nn left cnt ∧ Below w.heap.size w wr ∧ Hid (OutAt w wr o R (MemK fs (fun k=>left k = false)))) (fun _ _ _ _ _ _ _ _ wr=>wr.rangeLeft b r2)
   case atStart=>
    obtain ⟨R2,hR⟩:=HST2.out
    exact ⟨_,_,R2,HRG5.out,HB5.out,Lib.hid (hR.congr fun q=>by simp [MemK])⟩
   case round=>
    obtain ⟨left2,cnt2,R2,hrg,hb,HO⟩:=hrel
    rcases hrg.next_ Tryz.underlying3 0 with ⟨h02,hl2,hN⟩ | ⟨k,v,wn,cnt3,hk,hFk,hwf,hN,hrg3,hlt,hg2,hs2,hE⟩
    ·have hne : R2 ≠ []:=fun e=>by
      have:=(HO.out.mem (.nxt,numV fs.next)).2 (.inl (.inl rfl))
      rw [e] at this; cases this
     have hlim:=OK.out.small R2 HO.out.nodup (fun q hq=>memK_has' ((HO.out.mem q).1 hq))
     have hSO:=Lib.hid (sort_items wr w.heap.size R2.length u5 (R2.map itx) (by simpa using hne) (by simp) HO.out.own hlim)
     have HBr:=Lib.hid hb
     have hmm : ∀ q,q ∈ R2 ↔ HasIt fs q:=fun q=>by
      rw [HO.out.mem q,← memK_has fs q]
      unfold MemK
      simp only [hl2]
     have HMM:=Lib.hid hmm
     clear hrg hb hmm
     go_wp2_with (
      go_at_call 64
      refine hSO.out.mono ?_
      rintro e w7 ⟨rfl,l',hp,hpw,ho7,hk7⟩
      have HO7:=Lib.hid ho7
      have HB7 : Hid (Below w.heap.size w w7):=Lib.hid (HBr.out.trans (hk7.to_below HBr.out.size (fun i hi=>own_ge HO.out.own hi)))
      have HP7:=Lib.hid hp
      have HPW:=Lib.hid hpw
      clear ho7 hk7 hp hpw)
     go_ret
     refine ⟨HB7.out,u5,R2,l',rfl,HO.out.nodup,HMM.out,HP7.out,HPW.out,?_⟩
     have hl7 : l'.length = R2.length:=by rw [HP7.out.length_eq,List.length_map]
     rw [hl7]
     exact HO7.out
    ·obtain ⟨a,hNa,rfl⟩ : ∃ a,fs.N k = some a ∧ v = ptrG (own k).g:=by
      cases hq : fs.N k with
      | none=>simp [hq] at hFk
      | some a=>simp [hq] at hFk; exact ⟨a,rfl,hFk.symm⟩
     have hkr : Keep (fun i=>i = r2) wr wn:=Keep.of_grown hg2 _ (fun k hk=>by cases hk; exact .inl rfl)
     have hbn : Below w.heap.size w wn:=hb.trans (hkr.to_below hb.size (fun i h=>by omega))
     have hon:=HO.out.keep hkr (fun i hi he=>hrg.ne_own HO.out.own (by rw [hi,he]))
     have hnd:=(H.out.below hbn).node k a hNa
     obtain ⟨z0,z1,z2,z3,z4,z5⟩ : wn.cell? ⟨(own k).g,0,none⟩ = some (.int .i64 a.nd.kind) ∧ wn.cell? ⟨(own k).g,1,none⟩ = some (.int .i64 a.nd.mode) ∧ wn.cell? ⟨(own k).g,2,none⟩ = some (.int .i64 a.nd.time) ∧ wn.cell? ⟨(own k).g,3,none⟩ = some (.int .i64 a.nd.links) ∧ wn.cell? ⟨(own k).g,4,none⟩ = some (.int .i64 a.nd.size) ∧ wn.cell? ⟨(own k).g,5,none⟩ = some (.string a.nd.target):=⟨hnd.blk.cell 0,hnd.blk.cell 1,hnd.blk.cell 2,hnd.blk.cell 3,hnd.blk.cell 4,hnd.blk.cell 5⟩
     have hEN:=Lib.hid (fun W=>enc_is a.nd W (OK.out.target k a hNa))
     have hTX:=Lib.hid (fun W=>text_is 105 k ⟨#[]⟩ 0 W (by decide))
     have hkt : textS_ 105 k ⟨#[]⟩ 0 = kkText (.nd k):=rfl
     rw [hkt] at hTX
     have HLEN:=Lib.hid (OK.out.small R2 HO.out.nodup (fun q hq=>memK_has' ((HO.out.mem q).1 hq)))
     have hleft : ¬ ((fun k=>left2 k = false) k):=by simp [hk]
     have hnew : ¬ MemK fs (fun k=>left2 k = false) (.nd k,encV a.nd):=fun h=>(memK_of h hleft).1 rfl
     have HLEFT:=Lib.hid hleft
     have HNEW:=Lib.hid hnew
     have HON:=Lib.hid hon
     have HBN:=Lib.hid hbn
     have HRG3:=Lib.hid hrg3
     have HRG0:=Lib.hid hrg
     clear hkr hbn hon hnd hkt hnew hrg3 hrg hb hg2 HO hleft
     generalize hkk : kkText (.nd k) = kt at *
     generalize hvv : encV a.nd = vv at *
     unfold ptrG at hN hE
     go_wp2_with (first
      |(go_at_call 63
        refine (hEN.out _).mono ?_
        rintro e w7 ⟨⟨er7,rfl⟩,hb7⟩
        have HB7:=Lib.hid hb7
        clear hb7)
      |(go_at_call 61
        refine (hTX.out _).mono ?_
        rintro e w8 ⟨rfl,hb8⟩
        have HB8:=Lib.hid (bl_t HB7.out hb8)
        have HO8:=Lib.hid (HON.out.below HB8.out)
        have HBW:=Lib.hid (bl_t HBN.out HB8.out)
        have HRG8:=Lib.hid (HRG3.out.below HB8.out)
        clear hb8)
      |(at_builtin
        refine wpList_append_own_at _ rfl _ _ 28 rfl w.heap.size 59 i0 (.agg #[.string ⟨#[]⟩,.string ⟨#[]⟩]) 2 32 Tryz.underlying28 hi hz0 hz1 hz2 rfl (by decide) _ R2.length _ rfl
         (HO8.out.own.alloc _) ⟨w8.heap.size,0,none⟩ 1 1 [.string (kt),.string (vv)] rfl rfl ?c1 ?c2 ?c3 ?c4 ?c5 ?_
        case c1=>exact World.news_of_block (heap_alloc_new w8 _)
        case c2=>simp [Value.oneCell']
        case c3=>have:=HLEN.out; unfold maxLen; omega
        case c4=>have:=HLEN.out; omega
        case c5=>have:=HBW.out.size; simp; omega
        intro v2 w6 hown2 hg6 _ _
        have hq2 : w6.ownsRow w.heap.size 59 2 v2 (R2.length + 1) (itCs (R2.map itx) ++ itC (itx (.nd k,vv))):=by
         have e2 : itC (itx (.nd k,vv)) = [.string kt,.string vv]:=by unfold itC itx; rw [hkk]
         rw [e2]; exact hown2
        obtain ⟨ho6,hk6⟩:=out_step HO8.out HNEW.out hq2 hg6
        have hr6:=HRG8.out.keep hk6 (fun he=>by have:=own_ge HO8.out.own he.symm; omega) (fun he=>HRG8.out.ne_own HO8.out.own he.symm)
        have hb6:=out_below HO8.out HBW.out hk6
        have hnd6:=(H.out.below hb6).node k a hNa
        obtain ⟨A6,q6,hv6,hr6p,hq6,hb6p⟩:=hnd6.row
        have e6 : w6.cell? ⟨(own k).g,6,none⟩ = some (.slice A6 a.ps.length q6):=by rw [← hv6]; exact hnd6.blk.cell 6
        have hfew:=hnd6.few
        have HB6:=Lib.hid hb6
        have HR6:=Lib.hid hr6
        have HRP6:=Lib.hid hr6p
        have HO6 : Hid (OutAt w w6 v2 (R2 ++ [(.nd k,vv)]) (MemP fs (fun k=>left2 k = false) k a 0)):=Lib.hid (ho6.congr fun q=>by unfold MemP; rw [hvv]; simp)
        clear hown2 hg6 hq2 ho6 hk6 hr6 hb6 hnd6 hr6p hb6p))
     clear hEN hTX z0 z1 z2 z3 z4 z5 hE hN HON HRG8 HB7 HB8 HO8 HBW HNEW hkk hvv HLEN
     have hkeep:=Lib.hid (fun w' (h : RngI Tryz.prog 3 w' b r2 (fun k=>(fs.N k).map fun _=>ptrG (own k).g) nn (fun x=>left2 x && !(decide (x = k))) cnt3)=>show w'.rangeLeft b r2 < wr.rangeLeft b r2 from by rw [h.left_eq,HRG0.out.left_eq]; exact hlt)
     clear HRG0 HBN HRG3
     have hpsf:=ps_few OK.out hNa
     go_loopw [5,13,83] (fun o _ i wr=>∃ (j : Nat) (R : List (KK × ByteArray)),i = .int .i64 j ∧ j ≤ a.ps.length ∧ RngI Tryz.prog 3 wr b r2 (fun k=>(fs.N k).map fun _=>ptrG (own k).g) nn (fun x=>left2 x && !(decide (x = k))) cnt3 ∧ Below w.heap.size w wr ∧ Hid (OutAt w wr o R (MemP fs (fun k=>left2 k = false) k a j))) (fun _ _ i _=>a.ps.length - (intOf i).toNat)
     case atStart=>exact ⟨0,_,rfl,Nat.zero_le _,HR6.out,HB6.out,HO6⟩
     case round=>
      obtain ⟨j,R3,rfl,hj,hrg,hb,HO⟩:=hrel
      have hnd:=(H.out.below hb).node k a hNa
      have HRG:=Lib.hid hrg
      have HB:=Lib.hid hb
      have HND:=Lib.hid hnd
      clear hrg hb hnd
      by_cases hjn : j < a.ps.length
      ·have hjn' : (j : Int) < a.ps.length:=by omega
       obtain ⟨A7,q7,hv7,hr7p,hq7,hb7p⟩:=HND.out.row
       rw [hv6] at hv7
       injection hv7 with hA7 _ hq77
       subst hA7 hq77
       obtain ⟨g7,o7,hjl,rfl,d0,d1⟩:=hr7p.at_ hjn
       have hpm : a.ps[j] ∈ a.ps:=List.getElem_mem hjl
       have htk : a.ps.take (j + 1) = a.ps.take j ++ [a.ps[j]]:=by rw [List.take_add_one,List.getElem?_eq_getElem hjl]; rfl
       have hnotin : a.ps[j] ∉ a.ps.take j:=fun h=>by
        have hnp:=OK.out.ps k a hNa
        rw [← List.take_append_drop (j + 1) a.ps,htk] at hnp
        have h1:=(List.nodup_append.1 hnp).1
        exact (List.nodup_append.1 h1).2.2 _ h _ (by simp) rfl
       generalize a.ps[j] = pj at *
       have hTX:=Lib.hid (fun W=>text_is 112 k ⟨#[]⟩ pj.1 W (by decide))
       have hkt : textS_ 112 k ⟨#[]⟩ pj.1 = kkText (.pc k pj.1):=rfl
       rw [hkt] at hTX
       have HLEN:=Lib.hid (OK.out.small R3 HO.out.nodup (fun q hq=>memX_has (Q:=fun _=>False) hNa (.inl (by
        have:=(HO.out.mem q).1 hq
        unfold MemP at this ⊢
        exact this.imp id fun ⟨p,h,e⟩=>⟨p,by rw [List.take_length]; exact List.mem_of_mem_take h,e⟩))))
       have hnew : ¬ MemP fs (fun k=>left2 k = false) k a j (.pc k pj.1,pj.2):=by
        rintro ((h | h) | ⟨p,h,e⟩)
        ·exact (memK_of h HLEFT.out).2.1 pj.1 rfl
        ·injection h with h _; cases h
        ·injection e with e1 e2
         injection e1 with _ e1
         have : p = pj:=Prod.ext e1.symm e2.symm
         subst this
         exact hnotin h
       have HNEW:=Lib.hid hnew
       have HTK:=Lib.hid htk
       have hPB:=Blk.new wr 111 #[.int .i64 pj.1,.string pj.2]
       have p0 : (wr.alloc (.cells #[.int .i64 pj.1,.string pj.2] 111)).cell? ⟨wr.heap.size,0,none⟩ = some (.int .i64 pj.1):=hPB.cell 0
       have p1 : (wr.alloc (.cells #[.int .i64 pj.1,.string pj.2] 111)).cell? ⟨wr.heap.size,1,none⟩ = some (.string pj.2):=hPB.cell 1
       have hpne : some wr.heap.size ≠ u5.ownBlock:=fun he=>by
        have:=(HO.out.own.lt _ he.symm).2
        omega
       have HPNE:=Lib.hid hpne
       have HPB:=Lib.hid hPB
       have hba : Below wr.heap.size wr (wr.alloc (.cells #[.int .i64 pj.1,.string pj.2] 111)):=(Below.refl _ _).alloc (Nat.le_refl _) _
       have HBA:=Lib.hid hba
       clear hPB hba htk hnotin hnew hkt hr7p hb7p hpm hpne
       generalize hkk : kkText (.pc k pj.1) = kt at *
       go_upto_region 15 with fail
       generalize wr.alloc (.cells #[.int .i64 pj.1,.string pj.2] 111) = wp at *
       have hS0 : (fun w'=>w'.cell? ⟨wr.heap.size,0,none⟩ = some (.int .i64 pj.1) ∧ w'.cell? ⟨wr.heap.size,1,none⟩ = some (.string pj.2)) wp.drew:=⟨p0,p1⟩
       refine wp_region_T (S:=(fun w'=>w'.cell? ⟨wr.heap.size,0,none⟩ = some (.int .i64 pj.1) ∧ w'.cell? ⟨wr.heap.size,1,none⟩ = some (.string pj.2))) (t:=11) (by kernel_rfl) ?_
       refine' wpAnyT_take2 (by kernel_rfl) 0 (v:=_) (by kernel_rfl) (by decide) rfl (by kernel_rfl) (by kernel_rfl) (by kernel_rfl) (fun _ _ _ h=>h) (Or.inl ⟨by rfl,?hy0⟩) (by assumption) ?rest0
       case hy0=>(intro w hSw; (try dsimp only at hSw); go_simp; (try with_reducible rfl))
       try simp only [List.getElem_toArray,List.getElem_cons_zero,Act.put,List.setIfInBounds_toArray,List.set_cons_zero,List.set_cons_succ]
       refine' wpAnyT_take2 (by kernel_rfl) 1 (v:=_) (by kernel_rfl) (by decide) rfl (by kernel_rfl) (by kernel_rfl) (by kernel_rfl) (fun _ _ _ h=>h) (Or.inl ⟨by rfl,?hy1⟩) (by assumption) ?rest1
       case hy1=>(intro w hSw; (try dsimp only at hSw); go_simp; (try with_reducible rfl))
       try simp only [List.getElem_toArray,List.getElem_cons_zero,List.getElem_cons_succ,Act.put,List.setIfInBounds_toArray,List.set_cons_zero,List.set_cons_succ]
       refine' wpAnyT_take2 (by kernel_rfl) 2 (v:=_) (by kernel_rfl) (by decide) rfl (by kernel_rfl) (by kernel_rfl) (by kernel_rfl) (fun _ _ _ h=>h) (Or.inl ⟨by rfl,?hy2⟩) (by assumption) ?rest2
       case hy2=>(intro w hSw; (try dsimp only at hSw); go_simp; (try with_reducible rfl))
       try simp only [List.getElem_toArray,List.getElem_cons_zero,List.getElem_cons_succ,Act.put,List.setIfInBounds_toArray,List.set_cons_zero,List.set_cons_succ]
       refine' wpAnyT_take2 (by kernel_rfl) 3 (v:=_) (by kernel_rfl) (by decide) rfl (by kernel_rfl) (by kernel_rfl) (by kernel_rfl) (fun _ _ _ h=>h) (Or.inl ⟨by rfl,?hy3⟩) (by assumption) ?rest3
       case hy3=>(intro w hSw; (try dsimp only at hSw); go_simp; (try with_reducible rfl))
       try simp only [List.getElem_toArray,List.getElem_cons_zero,List.getElem_cons_succ,Act.put,List.setIfInBounds_toArray,List.set_cons_zero,List.set_cons_succ]
       refine' wpAnyT_take2 (by kernel_rfl) 4 (v:=_) (by kernel_rfl) (by decide) rfl (by kernel_rfl) (by kernel_rfl) (by kernel_rfl) (fun _ _ _ h=>h) (Or.inl ⟨by rfl,?hy4⟩) (by assumption) ?rest4
       case hy4=>(intro w hSw; (try dsimp only at hSw); go_simp; (try with_reducible rfl))
       try simp only [List.getElem_toArray,List.getElem_cons_zero,List.getElem_cons_succ,Act.put,List.setIfInBounds_toArray,List.set_cons_zero,List.set_cons_succ]
       refine' wpAnyT_take2 (by kernel_rfl) 6 (v:=_) (by kernel_rfl) (by decide) rfl (by kernel_rfl) (by kernel_rfl) (by kernel_rfl) (fun _ _ _ h=>h) (Or.inl ⟨by rfl,?hy6⟩) (by assumption) ?rest6
       case hy6=>(intro w hSw; (try dsimp only at hSw); go_simp; (try with_reducible rfl))
       try simp only [List.getElem_toArray,List.getElem_cons_zero,List.getElem_cons_succ,Act.put,List.setIfInBounds_toArray,List.set_cons_zero,List.set_cons_succ]
       refine' wpAnyT_take2 (by kernel_rfl) 7 (v:=_) (by kernel_rfl) (by decide) rfl (by kernel_rfl) (by kernel_rfl) (by kernel_rfl) (fun _ _ _ h=>h) (Or.inl ⟨by rfl,?hy7⟩) (by assumption) ?rest7
       case hy7=>(intro w hSw; (try dsimp only at hSw); go_simp; (try with_reducible rfl))
       try simp only [List.getElem_toArray,List.getElem_cons_zero,List.getElem_cons_succ,Act.put,List.setIfInBounds_toArray,List.set_cons_zero,List.set_cons_succ]
       refine wpAnyT_one 5 (by kernel_rfl) rfl (fun K hK=>?_)
       go_simp
       go_at_call 61
       refine (hTX.out _).mono ?_
       rintro e w7 ⟨rfl,hb7⟩
       have hbp7 : Below wp.heap.size wp w7:=((Below.refl _ wp).drew).trans hb7
       have t0:=keepc' hbp7 p0
       have t1:=keepc' hbp7 p1
       have HBA7:=Lib.hid (bl_t HBA.out hbp7)
       have HO7:=Lib.hid (HO.out.below HBA7.out)
       have HBW:=Lib.hid (bl_t HB.out HBA7.out)
       have HRG7:=Lib.hid (HRG.out.below HBA7.out)
       have hba7 : Below w7.heap.size w7 (w7.alloc (.cells #[.string kt,.string pj.2] 59)):=(Below.refl _ _).alloc (Nat.le_refl _) _
       have t2:=keepc' hba7 t0
       have t3:=keepc' hba7 t1
       clear hb7 hbp7 hba7
       go_wp2_with fail
       refine hK.out _ _ (fun _=>⟨t0,t1⟩) ?_
       clear hK K
       refine wpAnyT_one 8 (by kernel_rfl) rfl (fun K hK=>?_)
       go_simp
       refine hK.out _ _ (fun _=>⟨t0,t1⟩) ?_
       clear hK K
       refine wpAnyT_one 9 (by kernel_rfl) rfl (fun K hK=>?_)
       go_simp
       refine hK.out _ _ (fun _=>⟨t2,t3⟩) ?_
       clear hK K
       refine wpAnyT_one 10 (by kernel_rfl) rfl (fun K hK=>?_)
       refine step_append_any _ (by rfl) (.tmp 87) (.tmp 96) _ (by rfl) w.heap.size 59 i0 (.agg #[.string ⟨#[]⟩,.string ⟨#[]⟩]) 2 32 Tryz.underlying28 hi hz0 hz1 hz2 rfl (by decide) u5 R3.length (itCs (R3.map itx)) (by rfl) (HO7.out.own.alloc _) (w7.heap.size + 1) (some ⟨w7.heap.size,0,none⟩) 1 1 [.string kt,.string pj.2] (by rfl) ⟨rfl,fun _=>⟨_,rfl,Nat.lt_succ_self _,World.news_of_block (heap_alloc_new w7 _)⟩⟩ (by simp [Value.oneCell']) (by have:=HLEN.out; unfold maxLen; omega) (by have:=HLEN.out; omega) (by have:=HBW.out.size; simp; omega) ?_
       intro v2 w6 hown2 hg6 _
       have hq2 : w6.ownsRow w.heap.size 59 2 v2 (R3.length + 1) (itCs (R3.map itx) ++ itC (itx (.pc k pj.1,pj.2))):=by
        have e2 : itC (itx (.pc k pj.1,pj.2)) = [.string kt,.string pj.2]:=by unfold itC itx; rw [hkk]
        rw [e2]; exact hown2
       obtain ⟨ho6,hk6⟩:=out_step HO7.out HNEW.out hq2 hg6
       have HR9:=Lib.hid (HRG7.out.keep hk6 (fun he=>by have:=own_ge HO7.out.own he.symm; omega) (fun he=>HRG7.out.ne_own HO7.out.own he.symm))
       have HB9:=Lib.hid (out_below HO7.out HBW.out hk6)
       have HO9 : Hid (OutAt w w6 v2 (R3 ++ [(.pc k pj.1,pj.2)]) (MemP fs (fun k=>left2 k = false) k a (j + 1))):=Lib.hid (ho6.congr fun q=>by
        unfold MemP
        rw [HTK.out]
        simp only [List.mem_append,List.mem_singleton]
        constructor
        ·rintro ((h | ⟨p,h,e⟩) | e)
         ·exact .inl h
         ·exact .inr ⟨p,.inl h,e⟩
         ·exact .inr ⟨pj,.inr rfl,e⟩
        ·rintro (h | ⟨p,h | rfl,e⟩)
         ·exact .inl (.inl h)
         ·exact .inl (.inr ⟨p,h,e⟩)
         ·exact .inr e)
       have hpne : some wr.heap.size ≠ u5.ownBlock:=HPNE.out
       have t4:=hk6.cell t0 hpne
       have t5:=hk6.cell t1 hpne
       clear hown2 hg6 hq2 ho6 hk6
       refine hK.out _ _ (fun _=>⟨t4,t5⟩) ?_
       clear hK K
       refine wpAnyT_one 11 (by kernel_rfl) rfl (fun K hK=>?_)
       go_simp
       refine hK.out _ _ (fun h=>absurd rfl h) ?_
       clear hK K
       refine wpAnyT_done (by kernel_rfl) ?_
       clear hS0 t0 t1 t2 t3 t4 t5 p0 p1
       go_wp2
       go_roundw
       case rel=>exact ⟨j + 1,_,by go_num,by omega,HR9.out,HB9.out,HO9⟩
       case measure=>simp [intOf]; omega
      ·have hjl : j = a.ps.length:=by omega
       subst hjl
       have e7 : wr.cell? ⟨(own k).g,7,none⟩ = some (.map (some (own k).ab)):=HND.out.blk.cell 7
       obtain ⟨an,xan,yan⟩:=HND.out.att
       obtain ⟨w5,hrun5,hrg5,hgr5,hs5⟩:=yan.range_ (encS_string Tryz.underlying9) Tryz.underlying133
       have hb5 : Below wr.heap.size wr w5:=(Keep.of_grown hgr5 (fun _=>False) (fun k hk=>by cases hk)).to_below (Nat.le_refl _) (fun _ h=>h.elim)
       have hr4 : w.heap.size ≤ wr.heap.size:=HB.out.size
       have HB5:=Lib.hid (bl_t HB.out hb5)
       have HRG5:=Lib.hid (HRG.out.below hb5)
       have hablt : (own k).ab < w.heap.size:=by
        obtain ⟨_,_,y⟩:=(H.out.node k a hNa).att
        exact y.lt
       have hbab : (own k).ab ≠ b:=(H.out.ne.2 k a hNa).1
       have HST4 : Hid (∃ R,OutAt w w5 u5 R (MemX fs (fun k=>left2 k = false) k a (fun s=>(atV a.at_ s).isSome = false))):=Lib.hid ⟨R3,(HO.out.below hb5).congr fun q=>by
        unfold MemX
        constructor
        ·intro h; exact .inl h
        ·rintro (h | ⟨s,v,h1,h2,_⟩)
         ·exact h
         ·simp [atV,h1] at h2⟩
       have HRX:=Lib.hid hrg5
       clear yan hrg5 hgr5 hb5 HO hs5 HND HRG
       go_wp2
       clear hrun5 e7
       generalize wr.heap.size = r4 at *
       generalize (own k).ab = ab at *
       go_loopw [5,14,15] (fun o _ _ wr=>∃ left4 cnt4 R,RngK litS Tryz.prog 9 wr ab r4 (atV a.at_) an left4 cnt4 ∧ RngI Tryz.prog 3 wr b r2 (fun k=>(fs.N k).map fun _=>ptrG (own k).g) nn (fun x=>left2 x && !(decide (x = k))) cnt3 ∧ Below w.heap.size w wr ∧ Hid (OutAt w wr o R (MemX fs (fun k=>left2 k = false) k a (fun s=>left4 s = false)))) (fun _ _ _ wr=>wr.rangeLeft ab r4)
       case atStart=>
        obtain ⟨R4,hR⟩:=HST4.out
        exact ⟨_,_,R4,HRX.out,HRG5.out,HB5.out,Lib.hid hR⟩
       case round=>
        obtain ⟨left4,cnt4,R4,hrx,hrg,hb,HO⟩:=hrel
        rcases hrx.next_ (encS_string Tryz.underlying9) (string_inv Tryz.underlying9) 0 with ⟨h04,hl4,hN⟩ | ⟨s,v,wn,cnt5,hk4,hFs,hN,hrx3,hlt4,hg4,hs4,hE⟩
        ·have HOE : Hid (OutAt w wr u5 R4 (MemK fs (fun x=>(left2 x && !(decide (x = k))) = false))):=Lib.hid (HO.out.congr fun q=>memX_all hNa (fun s v _=>hl4 s) (fun x b _=>by
          by_cases e : x = k
          ·simp [e]
          ·simp [e]) q)
         have HRG:=Lib.hid hrg
         have HB:=Lib.hid hb
         clear hrx hrg hb HO
         go_wp2
         go_roundw
         case rel=>exact ⟨_,_,_,HRG.out,HB.out,HOE⟩
         case measure=>exact hkeep.out _ HRG.out
        ·obtain ⟨val,hval,rfl⟩ : ∃ val,a.at_ s = some val ∧ v = .string val:=by
          unfold atV at hFs
          cases hq : a.at_ s with
          | none=>rw [hq] at hFs; cases hFs
          | some x=>rw [hq] at hFs; cases hFs; exact ⟨x,rfl,rfl⟩
         have hkr : Keep (fun i=>i = r4) wr wn:=Keep.of_grown hg4 _ (fun k hk=>by cases hk; exact .inl rfl)
         have hbn : Below w.heap.size w wn:=hb.trans (hkr.to_below hb.size (fun i h=>by omega))
         have hon:=HO.out.keep hkr (fun i hi he=>hrx.ne_own HO.out.own (by rw [hi,he]))
         have hrgn:=hrg.keep hkr (by omega) (fun he=>by
          obtain ⟨_,_,_,h1⟩:=hrg.iter
          obtain ⟨_,_,_,h2⟩:=hrx.iter
          rw [he,h2] at h1
          injection h1 with h1
          injection h1 with h1 _ _ _
          injection h1 with h1
          exact hbab h1)
         have hTX:=Lib.hid (fun W=>text_is 120 k s 0 W (OK.out.attrs k a s val hNa hval))
         have hkt : textS_ 120 k s 0 = kkText (.xa k s):=rfl
         rw [hkt] at hTX
         have HLEN:=Lib.hid (OK.out.small R4 HO.out.nodup (fun q hq=>memX_has hNa ((HO.out.mem q).1 hq)))
         have hnew : ¬ MemX fs (fun k=>left2 k = false) k a (fun s=>left4 s = false) (.xa k s,val):=by
          rintro (((h | h) | ⟨p,_,e⟩) | ⟨s',v',_,h2,e⟩)
          ·exact (memK_of h HLEFT.out).2.2 s rfl
          ·injection h with h _; cases h
          ·injection e with e _; cases e
          ·injection e with e _
           injection e with _ e
           rw [← e,hk4] at h2; cases h2
         have HNEW:=Lib.hid hnew
         have HON:=Lib.hid hon
         have HBN:=Lib.hid hbn
         have HRGN:=Lib.hid hrgn
         have HRX3:=Lib.hid hrx3
         have HRX0:=Lib.hid hrx
         clear hkr hbn hon hrgn hkt hnew hrx3 hrx hrg hb hg4 HO
         generalize hkk : kkText (.xa k s) = kt at *
         go_wp2_with (first
          |(go_at_call 61
            refine (hTX.out _).mono ?_
            rintro e w8 ⟨rfl,hb8⟩
            have HO8:=Lib.hid (HON.out.below hb8)
            have HBW:=Lib.hid (bl_t HBN.out hb8)
            have HRG8:=Lib.hid (HRGN.out.below hb8)
            have HRX8:=Lib.hid (HRX3.out.below hb8)
            clear hb8)
          |(at_builtin
            refine wpList_append_own_at _ rfl _ _ 28 rfl w.heap.size 59 i0 (.agg #[.string ⟨#[]⟩,.string ⟨#[]⟩]) 2 32 Tryz.underlying28 hi hz0 hz1 hz2 rfl (by decide) _ R4.length _ rfl
             (HO8.out.own.alloc _) ⟨w8.heap.size,0,none⟩ 1 1 [.string (kt),.string (val)] rfl rfl ?c1 ?c2 ?c3 ?c4 ?c5 ?_
            case c1=>exact World.news_of_block (heap_alloc_new w8 _)
            case c2=>simp [Value.oneCell']
            case c3=>have:=HLEN.out; unfold maxLen; omega
            case c4=>have:=HLEN.out; omega
            case c5=>have:=HBW.out.size; simp; omega
            intro v2 w6 hown2 hg6 _ _
            have hq2 : w6.ownsRow w.heap.size 59 2 v2 (R4.length + 1) (itCs (R4.map itx) ++ itC (itx (.xa k s,val))):=by
             have e2 : itC (itx (.xa k s,val)) = [.string kt,.string val]:=by unfold itC itx; rw [hkk]
             rw [e2]; exact hown2
            obtain ⟨ho6,hk6⟩:=out_step HO8.out HNEW.out hq2 hg6
            have HR6b:=Lib.hid (HRG8.out.keep hk6 (fun he=>by have:=own_ge HO8.out.own he.symm; omega) (fun he=>HRG8.out.ne_own HO8.out.own he.symm))
            have HRX6:=Lib.hid (HRX8.out.keep hk6 (fun he=>by have:=own_ge HO8.out.own he.symm; omega) (fun he=>HRX8.out.ne_own HO8.out.own he.symm))
            have HB6b:=Lib.hid (out_below HO8.out HBW.out hk6)
            have HO6b:=Lib.hid (ho6.congr fun q=>memX_step (left:=left4) hval q)
            clear hown2 hg6 hq2 ho6 hk6))
         go_roundw
         case rel=>exact ⟨_,_,_,HRX6.out,HR6b.out,HB6b.out,HO6b⟩
         case measure=>rw [HRX6.out.left_eq,HRX0.out.left_eq]; exact hlt4
  ·obtain ⟨ino,hGs,rfl⟩:=nmV_some hFs
   have hkr : Keep (fun i=>i = r1) wr wn:=Keep.of_grown hg2 _ (fun k hk=>by cases hk; exact .inl rfl)
   have hbn : Below w.heap.size w wn:=hb.trans (hkr.to_below hb.size (fun i h=>by omega))
   have hon:=HO.out.keep hkr (fun i hi he=>hrg.ne_own HO.out.own (by rw [hi,he]))
   obtain ⟨d,nm,hsd⟩ : ∃ d nm,s.1 = (d,nm):=⟨s.1.1,s.1.2,rfl⟩
   have hen : encSl s.1 = .agg #[.int .i64 d,.string nm]:=by rw [hsd]; rfl
   simp only [hen] at hN hE
   have hnz : nm.size ≤ 255:=by have:=OK.out.names s ino hGs; rw [hsd] at this; exact this
   have hS:=Blk.new wn 96 #[.int .i64 d,.string nm]
   have hba : Below wn.heap.size wn (wn.alloc (.cells #[.int .i64 d,.string nm] 96)):=(Below.refl _ _).alloc (Nat.le_refl _) _
   have s0 : (wn.alloc (.cells #[.int .i64 d,.string nm] 96)).cell? ⟨wr.heap.size,0,none⟩ = some (.int .i64 d):=by rw [← hs2]; exact hS.cell 0
   have s1 : (wn.alloc (.cells #[.int .i64 d,.string nm] 96)).cell? ⟨wr.heap.size,1,none⟩ = some (.string nm):=by rw [← hs2]; exact hS.cell 1
   have hTX:=Lib.hid (fun W=>text_is 100 d nm 0 W (by omega))
   have hkt : textS_ 100 d nm 0 = kkText (.nm s):=by show _ = textS_ 100 s.1.1 s.1.2 0; rw [hsd]
   rw [hkt] at hTX
   have hFX:=Lib.hid (fix8_of ino)
   have HLEN:=Lib.hid (OK.out.small R HO.out.nodup (fun q hq=>memN_has ((HO.out.mem q).1 hq)))
   have hnew : ¬ MemN fs (fun s=>left s = false) (.nm s,inoV ino):=by
    rintro (h | ⟨s',i',_,h2,h3⟩)
    ·injection h with h4 _
     cases h4
    ·injection h3 with h4 _
     injection h4 with h4
     subst h4
     rw [hk] at h2; cases h2
   have HNEW:=Lib.hid hnew
   have HON:=Lib.hid hon
   have HBN:=Lib.hid hbn
   have HBA:=Lib.hid hba
   have HRG3:=Lib.hid hrg3
   have HRG0:=Lib.hid hrg
   clear hkr hbn hon hS hba hkt hnew hrg3 hrg hb hg2 HO
   generalize hkk : kkText (.nm s) = kt at *
   generalize hvv : inoV ino = vv at *
   go_wp2_with (first
    |(go_at_call 61
      refine (hTX.out _).mono ?_
      rintro e w7 ⟨rfl,hb7⟩
      have HB7:=Lib.hid (bl_t HBA.out hb7)
      clear hb7)
    |(go_at_call 62
      refine (hFX.out _).mono ?_
      rintro e w8 ⟨rfl,hb8⟩
      have HB8:=Lib.hid (bl_t HB7.out hb8)
      have HO8:=Lib.hid (HON.out.below HB8.out)
      have HBW:=Lib.hid (bl_t HBN.out HB8.out)
      have HRG8:=Lib.hid (HRG3.out.below HB8.out)
      clear hb8)
    |(at_builtin
      refine wpList_append_own_at _ rfl _ _ 28 rfl w.heap.size 59 i0 (.agg #[.string ⟨#[]⟩,.string ⟨#[]⟩]) 2 32 Tryz.underlying28 hi hz0 hz1 hz2 rfl (by decide) _ R.length _ rfl
       (HO8.out.own.alloc _) ⟨w8.heap.size,0,none⟩ 1 1 [.string (kt),.string (vv)] rfl rfl ?c1 ?c2 ?c3 ?c4 ?c5 ?_
      case c1=>exact World.news_of_block (heap_alloc_new w8 _)
      case c2=>simp [Value.oneCell']
      case c3=>have:=HLEN.out; unfold maxLen; omega
      case c4=>have:=HLEN.out; omega
      case c5=>have:=HBW.out.size; simp; omega
      intro v2 w6 hown2 hg6 _ _
      have hq2 : w6.ownsRow w.heap.size 59 2 v2 (R.length + 1) (itCs (R.map itx) ++ itC (itx (.nm s,vv))):=by
       have e2 : itC (itx (.nm s,vv)) = [.string kt,.string vv]:=by unfold itC itx; rw [hkk]
       rw [e2]; exact hown2
      obtain ⟨ho6,hk6⟩:=out_step HO8.out HNEW.out hq2 hg6
      have hr6:=HRG8.out.keep hk6 (fun he=>by have:=own_ge HO8.out.own he.symm; omega) (fun he=>HRG8.out.ne_own HO8.out.own he.symm)
      have HB6:=Lib.hid (out_below HO8.out HBW.out hk6)
      have HR6:=Lib.hid hr6
      have HO6:=Lib.hid (ho6.congr fun q=>memN_step (left:=left) hGs hvv q)
      clear hown2 hg6 hq2 ho6 hk6 hr6))
   go_roundw
   case rel=>exact ⟨_,_,_,HR6.out,HB6.out,HO6.out⟩
   case measure=>rw [HR6.out.left_eq,HRG0.out.left_eq]; exact hlt
end Go.Proofs.YtpboohfofodeeaaGreatDoor
