/- law16: made, and what such files are (conditions: none; Mde's text, with Rch for Canon). -/
import Derived.Test.YtpboohfofodeeaaGreatDoorM40
import Derived.Test.YtpboohfofodeeaaGreatDoorSw02
import Derived.Test.YtpboohfofodeeaaGreatDoorSw03
import Derived.Test.YtpboohfofodeeaaGreatDoorM20
import Derived.Test.YtpboohfofodeeaaGreatDoorM13
import Derived.Laws.StructEq
import Derived.Test.YtpboohfofodeeaaGreatDoorM21
namespace Go.Proofs.YtpboohfofodeeaaGreatDoor
open Go.RowKit Go.Maps
/-- Files under way behind operations. -/
structure MadeF (w wr : World) (m k : Nat) (A : Option Addr) (L : List (ByteArray × ByteArray)) (fs : FS) : Prop where
 ls : LsAt w wr m A L fs
 rch : Rch k fs
theorem MadeF.mid {w wr : World} {m k : Nat} {A : Option Addr} {L : List (ByteArray × ByteArray)} {fs : FS} (h : MadeF w wr m k A L fs) : Mid m fs L:=⟨h.rch.good.canon,h.ls.it,h.ls.itm⟩
set_option maxRecDepth 100000 in
set_option maxHeartbeats 16000000 in
theorem lw_madeF {w : World} {A : Option Addr} {n c : Nat} {ops : List OpA} (hl : LibV w) (h : RdO w A n ops) (hn : n ≤ 60) (hg : ∀ o ∈ ops,greatB o = false) :
 Calls Tryz.prog 13 #[.slice A n c] w fun e w'=>∃ A' q L fs,e = .returned (.slice A' L.length q) ∧ MadeF w w' (2 + n * 5001) n A' L fs:=by
 have HLV:=Lib.hid hl
 have HLEN:=Lib.hid h.1
 have HRO:=Lib.hid h
 have HGR:=Lib.hid hg
 clear hl h hg
 go_enter Tryz.func13,Tryz.ntmps13
 go_wp2_with (
  go_at_call 17
  refine (fl_new _).mono ?_
  rintro e w1 hI
  obtain ⟨hb1,v1,R1,L1,he1,hR1,hR2,hR3,hR4,hR5⟩:=hI
  obtain ⟨A1,q1,rfl⟩:=own_slice hR5
  subst he1
  have HM1 : Hid (MadeF w w1 (2 + 0 * 5001) 0 A1 L1 fsRoot):=Lib.hid ⟨⟨it_row hR5 rfl,⟨R1,hR1,hR2,hR3,hR4⟩,root_itm,by omega,hb1⟩,Rch.root⟩
  clear hb1 hR1 hR2 hR3 hR4 hR5)
 go_loopw [3,4] (fun v3 v4 wr=>∃ (k : Nat) (A3 : Option Addr) (q3 : Nat) (L : List (ByteArray × ByteArray)) (fs : FS),k ≤ n ∧ v4 = .int .i64 k ∧ v3 = .slice A3 L.length q3 ∧ Hid (MadeF w wr (2 + k * 5001) k A3 L fs)) (fun _ v4 _=>n - (intOf v4).toNat)
 case atStart=>exact ⟨0,A1,q1,L1,fsRoot,Nat.zero_le _,rfl,rfl,HM1⟩
 case round=>
  obtain ⟨k,A3,q3,L,fs,hk,rfl,rfl,HM⟩:=hrel
  clear HM1
  by_cases hlt : k < n
  ·obtain ⟨ad,rfl,hcs⟩:=(HRO.out.below HM.out.ls.bl).2.2 (by omega)
   obtain ⟨c0,c1,c2,c3,c4,c5,c6,hints⟩:=hcs k hlt
   clear hcs
   have hmem : ops.getD k default ∈ ops:=by
    rw [List.getD_eq_getElem?_getD,List.getElem?_eq_getElem (by have:=HLEN.out; omega)]
    exact List.getElem_mem _
   have hsm:=great_no (HGR.out _ hmem)
   clear hmem
   generalize ops.getD k default = go at *
   have HSM:=Lib.hid hsm
   have HIN:=Lib.hid hints
   have HL:=Lib.hid HM.out.ls
   clear hsm hints
   have hblk:=World.block_lt_of_cell? wr _ c0
   go_wp2_with fail
   go_cut [5,6] from 8 to 27 (fun v5 v6 wx=>∃ (A7 : Option Addr) (q7 : Nat) (p7 : AnsP) (l7 : List (ByteArray × ByteArray)) (r : Nat),v5 = .slice A7 l7.length q7 ∧ v6 = .pointer (some ⟨r,0,none⟩) ∧ Hid (DidAt wr wx r A7 L go p7 l7))
   case first=>
    go_region_held3 (fun w'=>w'.cell? (ad.add (k * 7)) = some (.int .i64 go.kind) ∧ w'.cell? ⟨(ad.add (k * 7)).block,(ad.add (k * 7)).off + 1,none⟩ = some (.string go.path) ∧ w'.cell? ⟨(ad.add (k * 7)).block,(ad.add (k * 7)).off + 2,none⟩ = some (.string go.dest) ∧ w'.cell? ⟨(ad.add (k * 7)).block,(ad.add (k * 7)).off + 3,none⟩ = some (.string go.name) ∧ w'.cell? ⟨(ad.add (k * 7)).block,(ad.add (k * 7)).off + 4,none⟩ = some (.int .i64 go.off) ∧ w'.cell? ⟨(ad.add (k * 7)).block,(ad.add (k * 7)).off + 5,none⟩ = some (.int .i64 go.n) ∧ w'.cell? ⟨(ad.add (k * 7)).block,(ad.add (k * 7)).off + 6,none⟩ = some (.string go.data)) (first | go_keep | exact (IsOpC.set (w:=v) ⟨e0,e1,e2,e3,e4,e5,e6⟩ (fun h=>by have:=hbu.size; omega)).all | exact (IsOpC.set (w:=v) ⟨e0,e1,e2,e3,e4,e5,e6⟩ (fun h=>by simp at h; omega)).all)
     (first
      |(go_at_call 15
        first
        |(refine (lw_own2 (w:=wr.drew) HL.out.rd HL.out.few_).mono ?_
          rintro e u ⟨A5,q5,rfl,hr5,hb5⟩
          have hbu : Below wr.heap.size wr u:=(Below.refl _ wr).drew.trans hb5
          obtain ⟨d0,d1,d2,d3,d4,d5,d6⟩:=IsOpC.below (w:=wr) (o:=go) ⟨c0,c1,c2,c3,c4,c5,c6⟩ hbu)
        |(have hbx : Below wr.heap.size wr (wr.drew.alloc (.cells #[.int .i64 0,.string ⟨#[]⟩,.slice none 0 0,.slice none 0 0,.int .i64 0,.int .i64 0,.int .i64 0,.int .i64 0,.int .i64 0,.int .i64 0,.string ⟨#[]⟩] 36)):=(Below.refl _ wr).drew.alloc (Nat.le_refl _) _
          refine (lw_own2 (HL.out.below hbx).rd HL.out.few_).mono ?_
          rintro e u ⟨A5,q5,rfl,hr5,hb5⟩
          have hbu : Below wr.heap.size wr u:=bl_t hbx hb5
          have hA5 : Blk u wr.heap.size 36 #[.int .i64 0,.string ⟨#[]⟩,.slice none 0 0,.slice none 0 0,.int .i64 0,.int .i64 0,.int .i64 0,.int .i64 0,.int .i64 0,.int .i64 0,.string ⟨#[]⟩]:=blk_below (Blk.new wr.drew 36 #[.int .i64 0,.string ⟨#[]⟩,.slice none 0 0,.slice none 0 0,.int .i64 0,.int .i64 0,.int .i64 0,.int .i64 0,.int .i64 0,.int .i64 0,.string ⟨#[]⟩]) hb5
          have hlt5 : wr.heap.size < u.heap.size:=hA5.lt
          obtain ⟨d0,d1,d2,d3,d4,d5,d6⟩:=IsOpC.below (w:=wr) (o:=go) ⟨c0,c1,c2,c3,c4,c5,c6⟩ hbu))
      |(go_at_call 14
        first
        |(refine (lw_do hr5 HL.out.it HL.out.itm HL.out.few2 (HLV.out.below (bl_t HL.out.bl hbu)) (o:=go) HSM.out HIN.out).mono ?_
          rintro e v hD
          obtain ⟨A7,q7,B5,p5,B6,p6,p7,l7,rfl,hd7,hr7,hn7,hb7⟩:=hD
          have hbv : Below wr.heap.size wr v:=bl_t hbu hb7
          obtain ⟨e0,e1,e2,e3,e4,e5,e6⟩:=IsOpC.below (w:=wr) (o:=go) ⟨c0,c1,c2,c3,c4,c5,c6⟩ hbv
          try
           have hA7:=blk_below hA5 hb7
           obtain ⟨z0,z1,z2,z3,z4,z5,z6,z7,z8,z9,z10⟩:=ans_cells (a:=ans0) hA7
           obtain ⟨y0,y1,y2,y3,y4,y5,y6,y7,y8,y9,y10⟩:=ans_frozen hA7
           simp only [ans0,zeroND] at z0 z1 z2 z3 z4 z5 z6 z7 z8 z9 z10)
        |(have hbx : Below u.heap.size u (u.alloc (.cells #[.int .i64 0,.string ⟨#[]⟩,.slice none 0 0,.slice none 0 0,.int .i64 0,.int .i64 0,.int .i64 0,.int .i64 0,.int .i64 0,.int .i64 0,.string ⟨#[]⟩] 36)):=(Below.refl _ u).alloc (Nat.le_refl _) _
          have HD:=lw_do (q:=q5) (hr5.below (Nat.le_refl _) hbx) HL.out.it HL.out.itm HL.out.few2 (HLV.out.below (bl_t (bl_t HL.out.bl hbu) hbx)) (o:=go) HSM.out HIN.out
          refine HD.mono ?_
          clear HD
          rintro e v hD
          obtain ⟨A7,q7,B5,p5,B6,p6,p7,l7,rfl,hd7,hr7,hn7,hb7⟩:=hD
          have hbv : Below wr.heap.size wr v:=bl_t (bl_t hbu hbx) hb7
          obtain ⟨e0,e1,e2,e3,e4,e5,e6⟩:=IsOpC.below (w:=wr) (o:=go) ⟨c0,c1,c2,c3,c4,c5,c6⟩ hbv
          have hA7:=blk_below (Blk.new u 36 #[.int .i64 0,.string ⟨#[]⟩,.slice none 0 0,.slice none 0 0,.int .i64 0,.int .i64 0,.int .i64 0,.int .i64 0,.int .i64 0,.int .i64 0,.string ⟨#[]⟩]) hb7
          have hlt7 : u.heap.size < (u.alloc (.cells #[.int .i64 0,.string ⟨#[]⟩,.slice none 0 0,.slice none 0 0,.int .i64 0,.int .i64 0,.int .i64 0,.int .i64 0,.int .i64 0,.int .i64 0,.string ⟨#[]⟩] 36)).heap.size:=by simp
          obtain ⟨z0,z1,z2,z3,z4,z5,z6,z7,z8,z9,z10⟩:=ans_cells (a:=ans0) hA7
          obtain ⟨y0,y1,y2,y3,y4,y5,y6,y7,y8,y9,y10⟩:=ans_frozen hA7
          simp only [ans0,zeroND] at z0 z1 z2 z3 z4 z5 z6 z7 z8 z9 z10)))
    all_goals go_wp2_with fail
    all_goals go_meet
    ·exact ⟨A7,q7,p7,l7,v.heap.size,rfl,rfl,Lib.hid (did_new hd7 hr7 hbv)⟩
    ·exact ⟨A7,q7,p7,l7,u.heap.size,rfl,rfl,Lib.hid (did_set hd7 hr7 hA7 hlt7 hbu.size hbv)⟩
    ·exact ⟨A7,q7,p7,l7,wr.heap.size,rfl,rfl,Lib.hid (did_set hd7 hr7 hA7 hlt5 (Nat.le_refl _) hbv)⟩
   case rest=>
    obtain ⟨A7,q7,p7,l7,r,rfl,rfl,HD⟩:=hcut
    obtain ⟨B5,n5,B6,n6,hA⟩:=HD.out.an
    have x0 : wc.cell? ⟨r,0,none⟩ = some (.int .i64 p7.code):=hA.cell 0
    clear hA c0 c1 c2 c3 c4 c5 c6
    have hst:=mid_step HM.out.mid HIN.out HD.out.dor
    by_cases hc : p7.code = 0
    ·have hst2 : ∃ fs',Mid (2 + k * 5001 + 5001) fs' l7 ∧ Rch (k + 1) fs':=by
      rcases hst with ⟨h,_⟩ | ⟨_,_,hm,fs',hds,h⟩
      ·exact absurd hc h
      ·exact ⟨fs',h,.op HM.out.rch HIN.out hm hds hc⟩
     obtain ⟨fs',hm,hrch⟩:=hst2
     have HN : Hid (MadeF w wc (2 + (k + 1) * 5001) (k + 1) A7 l7 fs'):=Lib.hid ⟨⟨HD.out.rd,hm.items,hm.itm.mono (by omega),by omega,bl_t HM.out.ls.bl HD.out.bl⟩,hrch⟩
     rw [hc] at x0
     clear hst hm hc
     go_wp2_with fail
     go_round
     case rel=>exact ⟨k + 1,A7,q7,l7,fs',by omega,by go_num,rfl,HN⟩
     case measure=>simp [intOf]; omega
    ·have HN : Hid (MadeF w wc (2 + (k + 1) * 5001) (k + 1) A3 L fs):=Lib.hid ⟨⟨(HM.out.ls.below HD.out.bl).rd,HM.out.ls.it,HM.out.ls.itm.mono (by omega),by omega,bl_t HM.out.ls.bl HD.out.bl⟩,HM.out.rch.same⟩
     have hc' : (p7.code == 0) = false:=by simpa using hc
     clear hst hc
     go_wp2_with fail
     go_round
     case rel=>exact ⟨k + 1,A3,q3,L,fs,by omega,by go_num,rfl,HN⟩
     case measure=>simp [intOf]; omega
  ·obtain rfl : k = n:=by omega
   have HM2:=HM
   go_wp2
   go_ret
   exact ⟨A3,q3,L,fs,rfl,HM2.out⟩
end Go.Proofs.YtpboohfofodeeaaGreatDoor
/- A row that is taken from in front and appended to (a queue), of one-cell elements (conditions: none). -/
namespace Go.Proofs.YtpboohfofodeeaaGreatDoor
open Go.RowKit
/-- A slice of a block's cells, wherever it begins in the block. -/
def QRow (w : World) (base : Nat) (e : TypeId) (v : Value) (xs : List Value) : Prop:=
 ∃ (g o cap : Nat) (cur : Array Value),v = .slice (some ⟨g,o,none⟩) xs.length cap ∧ base ≤ g ∧ w.heap[g]? = some (.cells cur e (0,0)) ∧ xs.length ≤ cap ∧ cap ≤ maxLen ∧ o + cap ≤ cur.size ∧ (cur.toList.drop o).take xs.length = xs
section
variable {w w' : World} {base : Nat} {e : TypeId} {v : Value} {xs : List Value}
theorem QRow.of_own {n : Nat} (h : w.ownsRow base e 1 v n xs) (hn : 0 < n) : QRow w base e v xs:=by
 have hl : xs.length = n:=by have:=h.1; omega
 rcases h.2 with ⟨_,h0⟩ | ⟨g,cap,cur,rfl,hb,hg,h1,h2,h3,h4⟩
 ·omega
 ·refine ⟨g,0,cap,cur,by rw [hl],hb,hg,by omega,h2,by omega,?_⟩
  rw [List.drop_zero,hl]
  simpa using h4
theorem QRow.slice (h : QRow w base e v xs) : ∃ A q,v = .slice A xs.length q:=by
 obtain ⟨g,o,cap,cur,rfl,_⟩:=h
 exact ⟨_,_,rfl⟩
theorem QRow.lt (h : QRow w base e v xs) : ∀ k,v.ownBlock = some k → base ≤ k ∧ k < w.heap.size:=by
 obtain ⟨g,o,cap,cur,rfl,hb,hg,_⟩:=h
 intro k hk
 cases hk
 exact ⟨hb,lt_of_heap hg⟩
theorem QRow.own (h : QRow w base e v xs) : ∃ i,v.ownBlock = some i:=by
 obtain ⟨g,o,cap,cur,rfl,_⟩:=h
 exact ⟨g,rfl⟩
theorem QRow.keep {S : Nat → Prop} (h : QRow w base e v xs) (hk : Keep S w w') (hn : ∀ k,v.ownBlock = some k → ¬ S k) : QRow w' base e v xs:=by
 obtain ⟨g,o,cap,cur,rfl,hb,hg,h1⟩:=h
 exact ⟨g,o,cap,cur,rfl,hb,hk.heap hg (hn g rfl),h1⟩
theorem QRow.alloc (h : QRow w base e v xs) (o : Obj) : QRow (w.alloc o) base e v xs:=h.keep ((Keep.refl (fun _=>False) w).alloc o) (fun _ _ h=>h)
/-- The first, and the rest. -/
theorem QRow.first {x : Value} {t : List Value} {A : Option Addr} {n q : Nat} (h : QRow w base e (.slice A n q) (x :: t)) : ∃ g o,A = some ⟨g,o,none⟩ ∧ n = t.length + 1 ∧ n ≤ q ∧ w.cell? ⟨g,o,none⟩ = some x ∧ QRow w base e (sliced (some ⟨g,o,none⟩) 1 n q 1) t:=by
 obtain ⟨g,o,cap,cur,hv,hb,hg,h1,h2,h3,h4⟩:=h
 cases hv
 simp only [List.length_cons] at h1 h4
 have hd : cur.toList.drop o = (cur.toList.drop o).take (t.length + 1) ++ (cur.toList.drop o).drop (t.length + 1):=(List.take_append_drop _ _).symm
 have hx : cur[o]? = some x:=by
  have : (cur.toList.drop o)[0]? = some x:=by rw [hd,h4]; rfl
  rw [List.getElem?_drop] at this
  simpa using this
 refine ⟨g,o,rfl,rfl,h1,by simp [World.cell?,hg,hx],?_⟩
 unfold sliced
 by_cases e1 : q = 1
 ·have ht : t = []:=List.length_eq_zero_iff.1 (by omega)
  subst ht
  rw [if_pos e1]
  exact ⟨g,o,q - 1,cur,rfl,hb,hg,Nat.zero_le _,by omega,by omega,rfl⟩
 ·rw [if_neg e1]
  have ha : (some ⟨g,o,none⟩ : Option Addr).map (·.add (1 * 1)) = some ⟨g,o + 1,none⟩:=by simp [Addr.add_lit]
  refine ⟨g,o + 1,q - 1,cur,by rw [ha]; rfl,hb,hg,by omega,by omega,by omega,?_⟩
  rw [← List.drop_drop,show t.length = t.length + 1 - 1 from rfl,← List.drop_take,h4]
  rfl
end
section
variable {P : Program} (w : World)
theorem run_append_que (base : Nat) (t ty e : TypeId) (i : TypeInfo) (z : Value) (bytes : Nat) (ht : P.underlying t = some (.slice e)) (hi : P.info? e = some i) (hz : i.zero = some z)
 (hsize : i.size = 1) (hby : i.bytes = bytes) (hzs : z.cells.size = 1)
 (v : Value) (xs : List Value) (hown : QRow w base e v xs)
 (a : Addr) (c : Nat) (x : Value) (hx : w.cell? a = some x) (h1 : x.oneCell' = true)
 (h63 : xs.length + 1 ≤ maxLen) (hbytes : (xs.length + 1) * bytes ≤ 140737488355328) (hbase : base ≤ w.heap.size) :
 ∃ v' w',(Builtin.append_ #[t,t] ty #[v,.slice (some a) 1 c]).run P w = .ok v' w' ∧ QRow w' base e v' (xs ++ [x]) ∧ w.grownBy w' v.ownBlock ∧ (v'.ownBlock = v.ownBlock ∨ v'.ownBlock = some w.heap.size):=by
 subst hby
 have hnews : ∀ j u,[x][j]? = some u → w.cell? (a.add j) = some u:=by
  intro j u hu
  rcases j with _ | j
  ·simp at hu
   subst hu
   rw [show a.add 0 = a by unfold Addr.add; rw [if_pos rfl]]
   exact hx
  ·simp at hu
 have hlen : (xs ++ [x]).length = xs.length + 1:=by simp
 obtain ⟨g,o,cap,cur,rfl,hbg,hg,hnc,hcm,hcs,htake⟩:=hown
 have holen : o + xs.length ≤ cur.size:=by omega
 by_cases hroom : xs.length + 1 ≤ cap
 ·have hf:=run_firstCells_some (P:=P) w i.size 1 a 1 c [x] (by rw [hsize]; rfl) hnews
  have hst:=run_storeCells_at P g (o + xs.length) e [x] 0 cur w hg (by simp; omega) (by intro v hv; rw [List.mem_singleton.1 hv]; exact h1)
  simp only [Nat.add_zero] at hst
  refine ⟨.slice (some ⟨g,o,none⟩) (xs.length + 1) cap,w.setRow g (cur.toList.take (o + xs.length) ++ [x] ++ cur.toList.drop (o + xs.length + [x].length)).toArray,?_,⟨g,o,cap,_,by rw [hlen],hbg,setRow_heap w g cur _ e _ hg,by omega,hcm,?_,?_⟩,⟨rfl,rfl,rfl,by simp,fun k _ hk=>setRow_other w g k _ (fun e=>hk (by simp [Value.ownBlock,e]))⟩,.inl rfl⟩
  ·simp [Builtin.append_,run_underlying ht,sizeOf,typeInfo,hi,hsize,Builtin.lenOf,hroom,Addr.add_lit]
   rw [hsize] at hf
   simp [hf,hst]
  ·simp
   omega
  ·rw [hlen,List.drop_append_of_le_length (by simp; omega),List.drop_append_of_le_length (by simp; omega),List.drop_take,show o + xs.length - o = xs.length by omega,htake,← hlen]
   exact List.take_left
 ·have holds : ∀ j u,xs[j]? = some u → w.cell? ((⟨g,o,none⟩ : Addr).add j) = some u:=by
   intro j u hu
   have : (cur.toList.drop o)[j]? = some u:=by
    rw [← List.take_append_drop xs.length (cur.toList.drop o),htake,List.getElem?_append_left (List.getElem?_eq_some_iff.1 hu).1]
    exact hu
   rw [List.getElem?_drop] at this
   simp [World.cell?,Addr.add_lit,hg]
   simpa using this
  have hge:=grownCap_ge w (xs.length + 1) cap e
  have hcm2 : grownCap w (xs.length + 1) cap e ≤ maxLen:=grownCap_le_maxLen w (xs.length + 1) cap e h63
  have h64 : ((xs.length + 1 : Nat) : Int) ≤ 9223372036854775807:=by unfold maxLen at h63; omega
  have hr:=run_append_grow (P:=P) w t ty e i z ht hi hz ⟨g,o,none⟩ xs.length cap xs (by simp [hsize]) holds a 1 c [x] (by simp [hsize]) hnews (by omega) h64 (growslice_fits (by omega) hbytes)
  refine ⟨_,_,hr,⟨w.heap.size,0,_,_,by rw [hlen],hbase,heap_alloc_new w.drew _,by omega,hcm2,?_,?_⟩,⟨rfl,rfl,rfl,by simp,fun k hk _=>heap_alloc_old w.drew _ hk⟩,.inr rfl⟩
  ·simp [size_zeroCells,hzs]
   omega
  ·rw [List.drop_zero,hlen]
   simp only [Array.toList_append,List.append_assoc]
   rw [← List.append_assoc]
   have:=List.take_left (l₁:=xs ++ [x]) (l₂:=(Builtin.zeroCells z.cells (grownCap w (xs.length + 1) cap e - (xs.length + 1))).toList)
   rw [hlen] at this
   exact this
theorem wp_append_que {o : Oper} {a : Act} {K : Act → World → Prop} {Q : Exit → Act → World → Prop} (s x : Operand) (t : TypeId)
 (ho : o.op = .call { callee:=.builtin .append,args:=#[s,x],argTypes:=#[t,t] })
 (base : Nat) (e : TypeId) (i : TypeInfo) (z : Value) (bytes : Nat) (ht : P.underlying t = some (.slice e)) (hi : P.info? e = some i) (hz : i.zero = some z)
 (hsize : i.size = 1) (hby : i.bytes = bytes) (hzs : z.cells.size = 1)
 (v : Value) (xs : List Value) (hs : a.eval s = v) (hown : QRow w base e v xs)
 (A : Addr) (c : Nat) (y : Value) (hx : a.eval x = .slice (some A) 1 c) (hy : w.cell? A = some y) (h1 : y.oneCell' = true)
 (h63 : xs.length + 1 ≤ maxLen) (hbytes : (xs.length + 1) * bytes ≤ 140737488355328) (hbase : base ≤ w.heap.size)
 (h : ∀ v' w',QRow w' base e v' (xs ++ [y]) → w.grownBy w' v.ownBlock → (v'.ownBlock = v.ownBlock ∨ v'.ownBlock = some w.heap.size) → K (a.put o.dst v') w') : o.wp P a w K Q:=by
 obtain ⟨v',w',hrun,h2,h3,h4⟩:=run_append_que (P:=P) w base t o.type e i z bytes ht hi hz hsize hby hzs v xs hown A c y hy h1 h63 hbytes hbase
 unfold Oper.wp execOp
 simp only [ho,resolve,invoke,builtin,Sem.run_bind,Sem.run_pure,Result.andThen_ok,List.map_toArray,List.map_cons,List.map_nil,hs,hx,hrun]
 exact h v' w' h2 h3 h4
theorem wpList_append_que {ops : Array Oper} {rest : List Oper} {o : Oper} {a : Act} {Q : Exit → Act → World → Prop} (hgd : o.guard = none) (s x : Operand) (t : TypeId)
 (ho : o.op = .call { callee:=.builtin .append,args:=#[s,x],argTypes:=#[t,t] })
 (base : Nat) (e : TypeId) (i : TypeInfo) (z : Value) (bytes : Nat) (ht : P.underlying t = some (.slice e)) (hi : P.info? e = some i) (hz : i.zero = some z)
 (hsize : i.size = 1) (hby : i.bytes = bytes) (hzs : z.cells.size = 1)
 (v : Value) (xs : List Value) (hs : a.eval s = v) (hown : QRow w base e v xs)
 (A : Addr) (c : Nat) (y : Value) (hx : a.eval x = .slice (some A) 1 c) (hy : w.cell? A = some y) (h1 : y.oneCell' = true)
 (h63 : xs.length + 1 ≤ maxLen) (hbytes : (xs.length + 1) * bytes ≤ 140737488355328) (hbase : base ≤ w.heap.size)
 (h : ∀ v' w',QRow w' base e v' (xs ++ [y]) → w.grownBy w' v.ownBlock → (v'.ownBlock = v.ownBlock ∨ v'.ownBlock = some w.heap.size) → wpList P ops Q rest (a.put o.dst v') w') : wpList P ops Q (o :: rest) a w:=
 wpList_plain hgd fun _ hK=>wp_append_que w s x t ho base e i z bytes ht hi hz hsize hby hzs v xs hs hown A c y hx hy h1 h63 hbytes hbase fun v' w' h2 h3 h4=>hK _ _ (h v' w' h2 h3 h4)
end
end Go.Proofs.YtpboohfofodeeaaGreatDoor
/- ref08: Same (conditions: none). -/
namespace Go.Proofs.YtpboohfofodeeaaGreatDoor
open Go.RowKit Go.Maps
theorem same_ext {l l' : List (ByteArray × ByteArray)} (hl : l.length = l'.length) (h : ∀ j,j < l.length → l[j]? = l'[j]?) : l = l':=
 List.ext_getElem? fun j=>by
  by_cases hj : j < l.length
  ·exact h j hj
  ·rw [List.getElem?_eq_none (by omega),List.getElem?_eq_none (by omega)]
theorem txt_ne {x y : ByteArray} (h : ¬ x = y) : (x.toList == y.toList) = false:=by
 rw [toList_eq,toList_eq]
 cases hb : (x.data.toList == y.data.toList) with
 | false=>rfl
 | true=>exact absurd (bt_ext (by simpa using hb)) h
def SmeEnds (w : World) (l l' : List (ByteArray × ByteArray)) (e : Ending) (w' : World) : Prop:=((l = l' ∧ e = .returned (.bool true)) ∨ (l ≠ l' ∧ e = .returned (.bool false))) ∧ Below w.heap.size w w'
set_option maxRecDepth 100000 in
set_option maxHeartbeats 4000000 in
theorem ref_same {w : World} {A B : Option Addr} {n m c d : Nat} {l l' : List (ByteArray × ByteArray)} (h : RdI w A n l) (h' : RdI w B m l') (hn : n ≤ 1099511627776) :
 Calls Tryz.prog 16 #[.slice A n c,.slice B m d] w (SmeEnds w l l'):=by
 have HLN:=Lib.hid h.1
 have HLM:=Lib.hid h'.1
 have H:=Lib.hid h
 have H':=Lib.hid h'
 clear h h'
 by_cases hnm : n = m
 ·subst hnm
  go_enter Tryz.func16,Tryz.ntmps16
  go_wp2
  go_loopw [5] (fun i wr=>∃ k : Nat,k ≤ n ∧ i = .int .i64 k ∧ Below w.heap.size w wr ∧ ∀ j,j < k → l[j]? = l'[j]?) (fun i _=>n - (intOf i).toNat)
  case atStart=>exact ⟨0,Nat.zero_le _,rfl,Below.refl _ _,fun j hj=>by omega⟩
  case round=>
   obtain ⟨k,hk,rfl,hb,hp⟩:=hrel
   have HP:=Lib.hid hp
   have HB:=Lib.hid hb
   clear hp hb
   by_cases hlt : k < n
   ·obtain ⟨g,o,hl1,rfl,c0,c1⟩:=(H.out.below (Nat.le_refl _) HB.out).at_ hlt
    obtain ⟨g',o',hl2,rfl,d0,d1⟩:=(H'.out.below (Nat.le_refl _) HB.out).at_ hlt
    by_cases he : l[k] = l'[k]
    ·have HE:=Lib.hid he
     rw [← he] at d0 d1
     clear he
     obtain ⟨x,hx⟩ : ∃ x,l[k] = x:=⟨_,rfl⟩
     have HX:=Lib.hid hx
     rw [hx] at c0 c1 d0 d1 HE
     clear hx
     obtain ⟨x0,x1⟩:=x
     simp only at c0 c1 d0 d1
     go_wp2_with fail
     go_quiet (fail)
     go_wp2_with fail
     go_round
     case rel=>exact ⟨k + 1,by omega,by go_num,bl_t HB.out (⟨rfl,rfl,rfl,Nat.le_refl _,fun _ _=>rfl⟩),fun j hj=>by
      by_cases e : j = k
      ·subst e
       rw [List.getElem?_eq_getElem hl1,List.getElem?_eq_getElem hl2,← HE.out,HX.out]
      ·exact HP.out j (by omega)⟩
     case measure=>simp [intOf]; omega
    ·have HX : Hid (∀ W,Below wr.heap.size wr W → SmeEnds w l l' (.returned (.bool false)) W):=Lib.hid fun W hW=>⟨.inr ⟨fun e=>he (by simp [e]),rfl⟩,bl_t HB.out hW⟩
     generalize l[k] = x at *
     generalize l'[k] = y at *
     obtain ⟨x0,x1⟩:=x
     obtain ⟨y0,y1⟩:=y
     simp only at c0 c1 d0 d1
     by_cases h0 : x0 = y0
     ·have h1 : ¬ x1 = y1:=fun h1=>he (by rw [h0,h1])
      subst h0
      clear he
      have h1':=txt_ne h1
      go_wp2_with fail
      go_quiet (fail)
      go_wp2_with fail
      go_ret
      exact HX.out _ (⟨rfl,rfl,rfl,Nat.le_refl _,fun _ _=>rfl⟩)
     ·have h0':=txt_ne h0
      clear he
      go_wp2_with fail
      go_quiet (fail)
      go_wp2_with fail
      go_ret
      exact HX.out _ (⟨rfl,rfl,rfl,Nat.le_refl _,fun _ _=>rfl⟩)
   ·have HE : Hid (SmeEnds w l l' (.returned (.bool true)) wr):=Lib.hid ⟨.inl ⟨same_ext (by rw [HLN.out,HLM.out]) fun j hj=>HP.out j (by have:=HLN.out; omega),rfl⟩,HB.out⟩
    go_wp2
    go_ret
    exact HE.out
 ·have HE : Hid (SmeEnds w l l' (.returned (.bool false)) w):=Lib.hid ⟨.inr ⟨fun e=>hnm (by rw [← HLN.out,← HLM.out,e]),rfl⟩,Below.refl _ _⟩
  have hne : (n != m) = true:=by simpa using hnm
  go_enter Tryz.func16,Tryz.ntmps16
  go_wp2
  go_ret
  exact HE.out
end Go.Proofs.YtpboohfofodeeaaGreatDoor
/- ref12: Same, of texts (conditions: none). -/
namespace Go.Proofs.YtpboohfofodeeaaGreatDoor
open Go.RowKit Go.Maps
theorem sameT_ext {l l' : List ByteArray} (hl : l.length = l'.length) (h : ∀ j,j < l.length → l[j]? = l'[j]?) : l = l':=
 List.ext_getElem? fun j=>by
  by_cases hj : j < l.length
  ·exact h j hj
  ·rw [List.getElem?_eq_none (by omega),List.getElem?_eq_none (by omega)]
def SmtEnds (w : World) (l l' : List ByteArray) (e : Ending) (w' : World) : Prop:=((l = l' ∧ e = .returned (.bool true)) ∨ (l ≠ l' ∧ e = .returned (.bool false))) ∧ Below w.heap.size w w'
theorem strV_at {l : List ByteArray} {k : Nat} {u : Value} (h : (strV l)[k]? = some u) : ∃ hl : k < l.length,u = .string l[k]:=by
 unfold strV at h
 rw [List.getElem?_map] at h
 cases hk : l[k]? with
 | none=>rw [hk] at h; cases h
 | some x=>
  rw [hk] at h
  obtain ⟨hl,rfl⟩:=List.getElem?_eq_some_iff.1 hk
  exact ⟨hl,(Option.some.inj h).symm⟩
set_option maxRecDepth 100000 in
set_option maxHeartbeats 4000000 in
theorem ref_sameT {w : World} {A B : Option Addr} {n m c d : Nat} {l l' : List ByteArray} (h : RdV w A n (strV l)) (h' : RdV w B m (strV l')) (hn : n ≤ 1099511627776) :
 Calls Tryz.prog 26 #[.slice A n c,.slice B m d] w (SmtEnds w l l'):=by
 have HLN : Hid (l.length = n):=Lib.hid (by have:=h.1; unfold strV at this; simpa using this)
 have HLM : Hid (l'.length = m):=Lib.hid (by have:=h'.1; unfold strV at this; simpa using this)
 have H:=Lib.hid h
 have H':=Lib.hid h'
 clear h h'
 by_cases hnm : n = m
 ·subst hnm
  go_enter Tryz.func26,Tryz.ntmps26
  go_wp2
  go_loopw [5] (fun i wr=>∃ k : Nat,k ≤ n ∧ i = .int .i64 k ∧ Below w.heap.size w wr ∧ ∀ j,j < k → l[j]? = l'[j]?) (fun i _=>n - (intOf i).toNat)
  case atStart=>exact ⟨0,Nat.zero_le _,rfl,Below.refl _ _,fun j hj=>by omega⟩
  case round=>
   obtain ⟨k,hk,rfl,hb,hp⟩:=hrel
   have HP:=Lib.hid hp
   have HB:=Lib.hid hb
   clear hp hb
   by_cases hlt : k < n
   ·obtain ⟨a1,u1,rfl,e1,c0⟩:=(H.out.below HB.out).at_ hlt
    obtain ⟨a2,u2,rfl,e2,d0⟩:=(H'.out.below HB.out).at_ hlt
    obtain ⟨hl1,rfl⟩:=strV_at e1
    obtain ⟨hl2,rfl⟩:=strV_at e2
    clear e1 e2
    by_cases he : l[k] = l'[k]
    ·have HE:=Lib.hid he
     rw [← he] at d0
     clear he
     obtain ⟨x,hx⟩ : ∃ x,l[k] = x:=⟨_,rfl⟩
     have HX:=Lib.hid hx
     rw [hx] at c0 d0 HE
     clear hx
     go_wp2_with fail
     go_quiet (fail)
     go_wp2_with fail
     go_round
     case rel=>exact ⟨k + 1,by omega,by go_num,bl_t HB.out (⟨rfl,rfl,rfl,Nat.le_refl _,fun _ _=>rfl⟩),fun j hj=>by
      by_cases e : j = k
      ·subst e
       rw [List.getElem?_eq_getElem hl1,List.getElem?_eq_getElem hl2,← HE.out,HX.out]
      ·exact HP.out j (by omega)⟩
     case measure=>simp [intOf]; omega
    ·have HX : Hid (∀ W,Below wr.heap.size wr W → SmtEnds w l l' (.returned (.bool false)) W):=Lib.hid fun W hW=>⟨.inr ⟨fun e=>he (by simp [e]),rfl⟩,bl_t HB.out hW⟩
     generalize l[k] = x at *
     generalize l'[k] = y at *
     have h0':=txt_ne he
     clear he
     go_wp2_with fail
     go_quiet (fail)
     go_wp2_with fail
     go_ret
     exact HX.out _ (⟨rfl,rfl,rfl,Nat.le_refl _,fun _ _=>rfl⟩)
   ·have HE : Hid (SmtEnds w l l' (.returned (.bool true)) wr):=Lib.hid ⟨.inl ⟨sameT_ext (by rw [HLN.out,HLM.out]) fun j hj=>HP.out j (by have:=HLN.out; omega),rfl⟩,HB.out⟩
    go_wp2
    go_ret
    exact HE.out
 ·have HE : Hid (SmtEnds w l l' (.returned (.bool false)) w):=Lib.hid ⟨.inr ⟨fun e=>hnm (by rw [← HLN.out,← HLM.out,e]),rfl⟩,Below.refl _ _⟩
  have hne : (n != m) = true:=by simpa using hnm
  go_enter Tryz.func26,Tryz.ntmps26
  go_wp2
  go_ret
  exact HE.out
end Go.Proofs.YtpboohfofodeeaaGreatDoor
