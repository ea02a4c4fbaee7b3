/- ref08.Diff (conditions: none; printed by gen_diff.py). -/
import Derived.Test.YtpboohfofodeeaaGreatDoorMv02
import Derived.Test.YtpboohfofodeeaaGreatDoorM13
import Derived.Laws.StructEq
import Derived.Test.YtpboohfofodeeaaGreatDoorMv04
import Derived.Test.YtpboohfofodeeaaGreatDoorM11
namespace Go.Proofs.YtpboohfofodeeaaGreatDoor
open Go.RowKit Go.Maps
def chC (x:ChgA):List Value:=[.string x.key,.bool x.had,.bool x.has,.string x.old,.string x.new]
def chCs (l:List ChgA):List Value:=l.flatMap chC
theorem chCs_snoc (l:List ChgA) (x:ChgA):chCs (l++[x])=chCs l++chC x:=by simp [chCs]
theorem info_chg:(Tryz.prog.info? 54).map (fun i=>(i.zero,i.size,i.bytes))=some (some (.agg #[.string ⟨#[]⟩,.bool false,.bool false,.string ⟨#[]⟩,.string ⟨#[]⟩]),5,56):=by kernel_rfl
theorem reads_ch (w:World) (x:ChgA):Reads (w.alloc (.cells #[.string x.key,.bool x.had,.bool x.has,.string x.old,.string x.new] 54)) (w.heap.size+1) 5 (some ⟨w.heap.size,0,none⟩) 1 (chC x):=
 ⟨rfl,fun _=>⟨_,rfl,Nat.lt_succ_self _,World.news_of_block (heap_alloc_new w _)⟩⟩
theorem txt_ne_ {x y:ByteArray} (h:¬ x=y):(x.toList == y.toList)=false:=by
 rw [toList_eq,toList_eq]
 cases hb:(x.data.toList == y.data.toList) with
 | false=>rfl
 | true=>exact absurd (bt_ext (by simpa using hb)) h
theorem less_no {a b:ByteArray} (h:¬ btLt a b):Op.bytesLess a.toList b.toList=false:=by
 cases e:Op.bytesLess a.toList b.toList with
 | false=>rfl
 | true=>exact absurd ((btLt_less _ _).1 e) h
/-- What is unlike. -/
def DiffEnds (w:World) (l m:List (ByteArray × ByteArray)) (e:Ending) (w':World):Prop:=∃ (A:Option Addr) (q:Nat) (out:List ChgA),e=.returned (.slice A out.length q)∧w'.ownsRow w.heap.size 54 5 (.slice A out.length q) out.length (chCs out)∧DifI l m l.length m.length out∧out.length≤l.length+m.length∧Below w.heap.size w w'
/-- Under way. -/
structure DfAt (w wr:World) (l m:List (ByteArray × ByteArray)) (i k:Nat) (v:Value) (out:List ChgA):Prop where
 dif:DifI l m i k out
 few:out.length≤i+k
 own:wr.ownsRow w.heap.size 54 5 v out.length (chCs out)
 bl:Below w.heap.size w wr
theorem DfAt.drewN {w wr:World} {l m:List (ByteArray × ByteArray)} {i k:Nat} {v:Value} {out:List ChgA} (h:DfAt w wr l m i k v out) (n:Nat):DfAt w (wr.drewN n) l m i k v out:=
 ⟨h.dif,h.few,own_keep h.own (Keep.of_below (below_drewN (Below.refl _ _) n) (fun _=>False)) (fun _ _ h=>h),below_drewN h.bl n⟩
theorem DfAt.drew {w wr:World} {l m:List (ByteArray × ByteArray)} {i k:Nat} {v:Value} {out:List ChgA} (h:DfAt w wr l m i k v out):DfAt w wr.drew l m i k v out:=h.drewN 1
theorem DfAt.grown {w wr w':World} {l m:List (ByteArray × ByteArray)} {i k i' k':Nat} {v v':Value} {out:List ChgA} {c:ChgA} (h:DfAt w wr l m i k v out) (hd:DifI l m i' k' (out++[c])) (hik:i+k < i'+k')
 (hown:w'.ownsRow w.heap.size 54 5 v' (out.length+1) (chCs out++chC c)) (hg:(wr.alloc (.cells #[.string c.key,.bool c.had,.bool c.has,.string c.old,.string c.new] 54)).grownBy w' v.ownBlock):DfAt w w' l m i' k' v' (out++[c]):=by
 refine ⟨hd,by have:=h.few; simp; omega,by rw [chCs_snoc,List.length_append]; exact hown,?_⟩
 have hk:=(Keep.of_grown hg (fun i=>v.ownBlock=some i) (fun k hk=>.inl hk))
 exact (h.bl.alloc h.bl.size _).trans (hk.to_below (by simp; exact Nat.le_succ_of_le h.bl.size) (fun i hi=>(h.own.lt i hi).1))
set_option maxRecDepth 100000 in
set_option maxHeartbeats 4000000 in
theorem rf_diff {w:World} {A B:Option Addr} {n m c d:Nat} {l l':List (ByteArray × ByteArray)} (h:RdI w A n l) (h':RdI w B m l') (hl:RiseL l) (hm:RiseL l') (hn:n≤1000000) (hm1:m≤1000000) :
 Calls Tryz.prog 24 #[.slice A n c,.slice B m d] w (DiffEnds w l l'):=by
 have HLN:=Lib.hid h.1
 have HLM:=Lib.hid h'.1
 have H:=Lib.hid h
 have H':=Lib.hid h'
 obtain ⟨i0,hi,hz0,hz1,hz2⟩:=info_parts info_chg
 have HL:=Lib.hid hl
 have HM:=Lib.hid hm
 clear h h' hl hm
 go_enter Tryz.func24,Tryz.ntmps24
 go_upto_region 3 with fail
 go_loopw [5,6,7] (fun v5 v6 v7 wr=>∃ (out:List ChgA) (i k:Nat),v6=.int .i64 i∧v7=.int .i64 k∧i≤n∧k≤m∧Hid (DfAt w wr l l' i k v5 out)) (fun _ v6 v7 _=>(n - (intOf v6).toNat)+(m - (intOf v7).toNat))
 case atStart=>exact ⟨[],0,0,rfl,rfl,Nat.zero_le _,Nat.zero_le _,Lib.hid ⟨DifI.start _ _,Nat.zero_le _,World.ownsRow_nil _ _ _ _,Below.refl _ _⟩⟩
 case round=>
  obtain ⟨out,i,k,rfl,rfl,hin,hkm,HD⟩:=hrel
  obtain ⟨A5,q5,rfl⟩:=own_slice HD.out.own
  have hfew:=HD.out.few
  have hnow:=HD.out.own.1
  by_cases hi1:i < n
  ·by_cases hk1:k < m
   ·obtain ⟨g,o,hl1,rfl,c0w,c1w⟩:=H.out.at_ hi1
    have hgw:=World.block_lt_of_cell? w _ c0w
    have hng:∀ v:Value,(∀ k,v.ownBlock=some k→w.heap.size≤k∧True)→¬ v.ownBlock=some g:=fun v hv e=>by have:=(hv g e).1; simp only at hgw; omega
    have c0:=keepc' HD.out.bl c0w
    have c1:=keepc' HD.out.bl c1w
    clear c0w c1w
    have hx:l[i]? = some l[i]:=List.getElem?_eq_getElem hl1
    generalize l[i]=x at *
    obtain ⟨x0,x1⟩:=x
    simp only at c0 c1
    have HX:=Lib.hid hx
    clear hx
    obtain ⟨g',o',hl2,rfl,d0w,d1w⟩:=H'.out.at_ hk1
    have hgw':=World.block_lt_of_cell? w _ d0w
    have hng':∀ v:Value,(∀ k,v.ownBlock=some k→w.heap.size≤k∧True)→¬ v.ownBlock=some g':=fun v hv e=>by have:=(hv g' e).1; simp only at hgw'; omega
    have d0:=keepc' HD.out.bl d0w
    have d1:=keepc' HD.out.bl d1w
    clear d0w d1w
    have hy:l'[k]? = some l'[k]:=List.getElem?_eq_getElem hl2
    generalize l'[k]=y at *
    obtain ⟨y0,y1⟩:=y
    simp only at d0 d1
    have HY:=Lib.hid hy
    clear hy
    rcases btLt_tri x0 y0 with hlt | he | hlt
    ·have hb1:=(btLt_less _ _).2 hlt
     have hdn:decide ((i:Int) < n)=true:=by simp; omega
     have hdg:decide ((i:Int)≥n)=false:=by simp; omega
     have hdm:decide ((k:Int) < m)=true:=by simp; omega
     have hdh:decide ((k:Int)≥m)=false:=by simp; omega
     have hen:decide (i < n)=true:=by simp; omega
     have heg:decide (n≤i)=false:=by simp; omega
     have hem:decide (k < m)=true:=by simp; omega
     have heh:decide (m≤k)=false:=by simp; omega
     have HLT:=Lib.hid hlt
     clear hlt
     go_wp2_with fail
     go_quiet (fail)
     have HD:=Lib.hid (HD.out.drewN nq)
     have c0:(wr.drewN nq).cell? ⟨g,o+i * 2,none⟩=some (.string x0):=c0
     have c1:(wr.drewN nq).cell? ⟨g,o+i * 2+1,none⟩=some (.string x1):=c1
     generalize wr.drewN nq=w1 at *
     go_wp2_with fail
     have HDr:=Lib.hid HD.out.drew
     have hsz:=HD.out.bl.size
     clear HD
     have hS0:(fun w'=>w'.cell? ⟨g,o+i * 2,none⟩=some (.string x0)∧w'.cell? ⟨g,o+i * 2+1,none⟩=some (.string x1)) w1.drew:=⟨c0,c1⟩
     refine wp_region_T (S:=(fun w'=>w'.cell? ⟨g,o+i * 2,none⟩=some (.string x0)∧w'.cell? ⟨g,o+i * 2+1,none⟩=some (.string x1))) (t:=14) (by kernel_rfl) ?_
     refine' T2 (v:=_) 0 rfl (Or.inl ⟨by rfl,?hya0⟩) ?resta0
     case hya0=>intro w hSw; (try dsimp only at hSw); go_simp; (try with_reducible rfl)
     refine' T2 (v:=_) 1 rfl (Or.inl ⟨by rfl,?hya1⟩) ?resta1
     case hya1=>intro w hSw; (try dsimp only at hSw); go_simp; (try with_reducible rfl)
     refine' T2 (v:=_) 2 rfl (Or.inl ⟨by rfl,?hya2⟩) ?resta2
     case hya2=>intro w hSw; (try dsimp only at hSw); go_simp; (try with_reducible rfl)
     refine' T2 (v:=_) 3 rfl (Or.inl ⟨by rfl,?hya3⟩) ?resta3
     case hya3=>intro w hSw; (try dsimp only at hSw); go_simp; (try with_reducible rfl)
     refine' T2 (v:=_) 4 rfl (Or.inl ⟨by rfl,?hya4⟩) ?resta4
     case hya4=>intro w hSw; (try dsimp only at hSw); go_simp; (try with_reducible rfl)
     refine' T2 (v:=_) 5 rfl (Or.inl ⟨by rfl,?hya5⟩) ?resta5
     case hya5=>intro w hSw; (try dsimp only at hSw); go_simp; (try with_reducible rfl)
     refine' T2 (v:=_) 6 rfl (Or.inl ⟨by rfl,?hya6⟩) ?resta6
     case hya6=>intro w hSw; (try dsimp only at hSw); go_simp; (try with_reducible rfl)
     refine' T2 (v:=_) 7 rfl (Or.inl ⟨by rfl,?hya7⟩) ?resta7
     case hya7=>intro w hSw; (try dsimp only at hSw); go_simp; (try with_reducible rfl)
     refine' T2 (v:=_) 8 rfl (Or.inl ⟨by rfl,?hya8⟩) ?resta8
     case hya8=>intro w hSw; (try dsimp only at hSw); go_simp; (try with_reducible rfl)
     refine' T2 (v:=_) 9 rfl (Or.inl ⟨by rfl,?hya9⟩) ?resta9
     case hya9=>intro w hSw; (try dsimp only at hSw); go_simp; (try with_reducible rfl)
     refine' T2 (v:=_) 10 rfl (Or.inl ⟨by rfl,?hya10⟩) ?resta10
     case hya10=>intro w hSw; (try dsimp only at hSw); go_simp; (try with_reducible rfl)
     refine' T2 (v:=_) 11 rfl (Or.inl ⟨by rfl,?hya11⟩) ?resta11
     case hya11=>intro w hSw; (try dsimp only at hSw); go_simp; (try with_reducible rfl)
     try simp only [Act.put,List.setIfInBounds_toArray,List.set_cons_zero,List.set_cons_succ]
     have HBA:=Lib.hid (show Below w1.heap.size w1 (w1.drew.alloc (.cells #[.string x0,.bool true,.bool false,.string x1,.string ⟨#[]⟩] 54)) from ((Below.refl _ w1).drew).alloc (Nat.le_refl _) _)
     have a_c0:=keepc' HBA.out c0
     have a_c1:=keepc' HBA.out c1
     have hrd:=Lib.hid (reads_ch w1.drew ⟨x0,true,false,x1,⟨#[]⟩⟩)
     refine wpAnyT_one 12 (by kernel_rfl) rfl (fun K hK=>?_)
     go_simp
     refine hK.out _ _ (fun _=>⟨a_c0,a_c1⟩) ?_
     clear hK K
     refine wpAnyT_one 13 (by kernel_rfl) rfl (fun K hK=>?_)
     refine step_append_any _ (by rfl) (.tmp 41) (.tmp 53) _ (by rfl) w.heap.size 54 i0 (.agg #[.string ⟨#[]⟩,.bool false,.bool false,.string ⟨#[]⟩,.string ⟨#[]⟩]) 5 56 Tryz.underlying51 hi hz0 hz1 hz2 rfl (by decide) (.slice A5 out.length q5) out.length (chCs out) (by rfl) (HDr.out.own.alloc _) (w1.heap.size+1) (some ⟨w1.heap.size,0,none⟩) 1 1 (chC ⟨x0,true,false,x1,⟨#[]⟩⟩) (by rfl) hrd.out (by simp [chC,Value.oneCell']) (by unfold maxLen; omega) (by omega) (Nat.le_trans hsz HBA.out.size) ?_
     intro v9 w9 hown9 hg9 _
     obtain ⟨A9,q9,rfl⟩:=own_slice hown9
     have hk9:=(Keep.of_grown hg9 (fun i=>(Value.slice A5 out.length q5).ownBlock=some i) (fun k hk=>.inl hk))
     have s_c0:=hk9.cell a_c0 (fun h=>hng _ (fun k hk=>⟨(HDr.out.own.lt k hk).1,trivial⟩) h)
     have s_c1:=hk9.cell a_c1 (fun h=>hng _ (fun k hk=>⟨(HDr.out.own.lt k hk).1,trivial⟩) h)
     have HD9:=Lib.hid (DfAt.grown (c:=⟨x0,true,false,x1,⟨#[]⟩⟩) (i':=i+1) (k':=k) HDr.out (HDr.out.dif.one HL.out HM.out HX.out (fun y hy=>by rw [HY.out] at hy; cases hy; exact HLT.out)) (by omega) hown9 hg9)
     clear hown9 hg9 hk9
     refine hK.out _ _ (fun _=>⟨s_c0,s_c1⟩) ?_
     clear hK K
     refine wpAnyT_one 14 (by kernel_rfl) rfl (fun K hK=>?_)
     go_simp
     refine hK.out _ _ (fun h=>absurd rfl h) ?_
     clear hK K
     refine wpAnyT_done (by kernel_rfl) ?_
     go_wp2_with fail
     go_roundw
     case rel=>exact ⟨_,i+1,k,by go_num,by go_num,by omega,by omega,HD9⟩
     case measure=>simp [intOf]; omega
    ·subst he
     have hb1:=less_no (btLt_irrefl x0)
     have hdn:decide ((i:Int) < n)=true:=by simp; omega
     have hdg:decide ((i:Int)≥n)=false:=by simp; omega
     have hdm:decide ((k:Int) < m)=true:=by simp; omega
     have hdh:decide ((k:Int)≥m)=false:=by simp; omega
     have hen:decide (i < n)=true:=by simp; omega
     have heg:decide (n≤i)=false:=by simp; omega
     have hem:decide (k < m)=true:=by simp; omega
     have heh:decide (m≤k)=false:=by simp; omega
     go_wp2_with fail
     go_quiet (fail)
     have HD:=Lib.hid (HD.out.drewN nq)
     have c0:(wr.drewN nq).cell? ⟨g,o+i * 2,none⟩=some (.string x0):=c0
     have c1:(wr.drewN nq).cell? ⟨g,o+i * 2+1,none⟩=some (.string x1):=c1
     have d0:(wr.drewN nq).cell? ⟨g',o'+k * 2,none⟩=some (.string x0):=d0
     have d1:(wr.drewN nq).cell? ⟨g',o'+k * 2+1,none⟩=some (.string y1):=d1
     generalize wr.drewN nq=w1 at *
     go_wp2_with fail
     go_quiet (fail)
     have HD:=Lib.hid (HD.out.drewN nq)
     have c0:(w1.drewN nq).cell? ⟨g,o+i * 2,none⟩=some (.string x0):=c0
     have c1:(w1.drewN nq).cell? ⟨g,o+i * 2+1,none⟩=some (.string x1):=c1
     have d0:(w1.drewN nq).cell? ⟨g',o'+k * 2,none⟩=some (.string x0):=d0
     have d1:(w1.drewN nq).cell? ⟨g',o'+k * 2+1,none⟩=some (.string y1):=d1
     generalize w1.drewN nq=w2 at *
     by_cases hv:x1=y1
     ·subst hv
      go_wp2_with fail
      go_quiet (fail)
      go_wp2_with fail
      have HD9:=Lib.hid (show DfAt w (w2.drewN nq) l l' (i+1) (k+1) (.slice A5 out.length q5) out from ⟨HD.out.dif.same HL.out HM.out HX.out HY.out rfl,by omega,(HD.out.drewN nq).own,(HD.out.drewN nq).bl⟩)
      go_roundw
      case rel=>exact ⟨_,i+1,k+1,by go_num,by go_num,by omega,by omega,HD9⟩
      case measure=>simp [intOf]; omega
     ·have hv':=txt_ne_ hv
      have HV:=Lib.hid hv
      clear hv
      go_wp2_with fail
      go_quiet (fail)
      have HD:=Lib.hid (HD.out.drewN nq)
      have c0:(w2.drewN nq).cell? ⟨g,o+i * 2,none⟩=some (.string x0):=c0
      have c1:(w2.drewN nq).cell? ⟨g,o+i * 2+1,none⟩=some (.string x1):=c1
      have d0:(w2.drewN nq).cell? ⟨g',o'+k * 2,none⟩=some (.string x0):=d0
      have d1:(w2.drewN nq).cell? ⟨g',o'+k * 2+1,none⟩=some (.string y1):=d1
      generalize w2.drewN nq=w3 at *
      go_wp2_with fail
      have HDr:=Lib.hid HD.out.drew
      have hsz:=HD.out.bl.size
      clear HD
      have hS0:(fun w'=>w'.cell? ⟨g,o+i * 2,none⟩=some (.string x0)∧w'.cell? ⟨g,o+i * 2+1,none⟩=some (.string x1)∧w'.cell? ⟨g',o'+k * 2+1,none⟩=some (.string y1)) w3.drew:=⟨c0,c1,d1⟩
      refine wp_region_T (S:=(fun w'=>w'.cell? ⟨g,o+i * 2,none⟩=some (.string x0)∧w'.cell? ⟨g,o+i * 2+1,none⟩=some (.string x1)∧w'.cell? ⟨g',o'+k * 2+1,none⟩=some (.string y1))) (t:=19) (by kernel_rfl) ?_
      refine' T2 (v:=_) 0 rfl (Or.inl ⟨by rfl,?hyc0⟩) ?restc0
      case hyc0=>intro w hSw; (try dsimp only at hSw); go_simp; (try with_reducible rfl)
      refine' T2 (v:=_) 1 rfl (Or.inl ⟨by rfl,?hyc1⟩) ?restc1
      case hyc1=>intro w hSw; (try dsimp only at hSw); go_simp; (try with_reducible rfl)
      refine' T2 (v:=_) 2 rfl (Or.inl ⟨by rfl,?hyc2⟩) ?restc2
      case hyc2=>intro w hSw; (try dsimp only at hSw); go_simp; (try with_reducible rfl)
      refine' T2 (v:=_) 3 rfl (Or.inl ⟨by rfl,?hyc3⟩) ?restc3
      case hyc3=>intro w hSw; (try dsimp only at hSw); go_simp; (try with_reducible rfl)
      refine' T2 (v:=_) 4 rfl (Or.inl ⟨by rfl,?hyc4⟩) ?restc4
      case hyc4=>intro w hSw; (try dsimp only at hSw); go_simp; (try with_reducible rfl)
      refine' T2 (v:=_) 5 rfl (Or.inl ⟨by rfl,?hyc5⟩) ?restc5
      case hyc5=>intro w hSw; (try dsimp only at hSw); go_simp; (try with_reducible rfl)
      refine' T2 (v:=_) 6 rfl (Or.inl ⟨by rfl,?hyc6⟩) ?restc6
      case hyc6=>intro w hSw; (try dsimp only at hSw); go_simp; (try with_reducible rfl)
      refine' T2 (v:=_) 7 rfl (Or.inl ⟨by rfl,?hyc7⟩) ?restc7
      case hyc7=>intro w hSw; (try dsimp only at hSw); go_simp; (try with_reducible rfl)
      refine' T2 (v:=_) 8 rfl (Or.inl ⟨by rfl,?hyc8⟩) ?restc8
      case hyc8=>intro w hSw; (try dsimp only at hSw); go_simp; (try with_reducible rfl)
      refine' T2 (v:=_) 9 rfl (Or.inl ⟨by rfl,?hyc9⟩) ?restc9
      case hyc9=>intro w hSw; (try dsimp only at hSw); go_simp; (try with_reducible rfl)
      refine' T2 (v:=_) 10 rfl (Or.inl ⟨by rfl,?hyc10⟩) ?restc10
      case hyc10=>intro w hSw; (try dsimp only at hSw); go_simp; (try with_reducible rfl)
      refine' T2 (v:=_) 11 rfl (Or.inl ⟨by rfl,?hyc11⟩) ?restc11
      case hyc11=>intro w hSw; (try dsimp only at hSw); go_simp; (try with_reducible rfl)
      refine' T2 (v:=_) 12 rfl (Or.inl ⟨by rfl,?hyc12⟩) ?restc12
      case hyc12=>intro w hSw; (try dsimp only at hSw); go_simp; (try with_reducible rfl)
      refine' T2 (v:=_) 13 rfl (Or.inl ⟨by rfl,?hyc13⟩) ?restc13
      case hyc13=>intro w hSw; (try dsimp only at hSw); go_simp; (try with_reducible rfl)
      refine' T2 (v:=_) 14 rfl (Or.inl ⟨by rfl,?hyc14⟩) ?restc14
      case hyc14=>intro w hSw; (try dsimp only at hSw); go_simp; (try with_reducible rfl)
      refine' T2 (v:=_) 15 rfl (Or.inl ⟨by rfl,?hyc15⟩) ?restc15
      case hyc15=>intro w hSw; (try dsimp only at hSw); go_simp; (try with_reducible rfl)
      refine' T2 (v:=_) 16 rfl (Or.inl ⟨by rfl,?hyc16⟩) ?restc16
      case hyc16=>intro w hSw; (try dsimp only at hSw); go_simp; (try with_reducible rfl)
      try simp only [Act.put,List.setIfInBounds_toArray,List.set_cons_zero,List.set_cons_succ]
      have HBA:=Lib.hid (show Below w3.heap.size w3 (w3.drew.alloc (.cells #[.string x0,.bool true,.bool true,.string x1,.string y1] 54)) from ((Below.refl _ w3).drew).alloc (Nat.le_refl _) _)
      have a_c0:=keepc' HBA.out c0
      have a_c1:=keepc' HBA.out c1
      have a_d1:=keepc' HBA.out d1
      have hrd:=Lib.hid (reads_ch w3.drew ⟨x0,true,true,x1,y1⟩)
      refine wpAnyT_one 17 (by kernel_rfl) rfl (fun K hK=>?_)
      go_simp
      refine hK.out _ _ (fun _=>⟨a_c0,a_c1,a_d1⟩) ?_
      clear hK K
      refine wpAnyT_one 18 (by kernel_rfl) rfl (fun K hK=>?_)
      refine step_append_any _ (by rfl) (.tmp 101) (.tmp 118) _ (by rfl) w.heap.size 54 i0 (.agg #[.string ⟨#[]⟩,.bool false,.bool false,.string ⟨#[]⟩,.string ⟨#[]⟩]) 5 56 Tryz.underlying51 hi hz0 hz1 hz2 rfl (by decide) (.slice A5 out.length q5) out.length (chCs out) (by rfl) (HDr.out.own.alloc _) (w3.heap.size+1) (some ⟨w3.heap.size,0,none⟩) 1 1 (chC ⟨x0,true,true,x1,y1⟩) (by rfl) hrd.out (by simp [chC,Value.oneCell']) (by unfold maxLen; omega) (by omega) (Nat.le_trans hsz HBA.out.size) ?_
      intro v9 w9 hown9 hg9 _
      obtain ⟨A9,q9,rfl⟩:=own_slice hown9
      have hk9:=(Keep.of_grown hg9 (fun i=>(Value.slice A5 out.length q5).ownBlock=some i) (fun k hk=>.inl hk))
      have s_c0:=hk9.cell a_c0 (fun h=>hng _ (fun k hk=>⟨(HDr.out.own.lt k hk).1,trivial⟩) h)
      have s_c1:=hk9.cell a_c1 (fun h=>hng _ (fun k hk=>⟨(HDr.out.own.lt k hk).1,trivial⟩) h)
      have s_d1:=hk9.cell a_d1 (fun h=>hng' _ (fun k hk=>⟨(HDr.out.own.lt k hk).1,trivial⟩) h)
      have HD9:=Lib.hid (DfAt.grown (c:=⟨x0,true,true,x1,y1⟩) (i':=i+1) (k':=k+1) HDr.out (HDr.out.dif.both HL.out HM.out HX.out HY.out rfl HV.out) (by omega) hown9 hg9)
      clear hown9 hg9 hk9
      refine hK.out _ _ (fun _=>⟨s_c0,s_c1,s_d1⟩) ?_
      clear hK K
      refine wpAnyT_one 19 (by kernel_rfl) rfl (fun K hK=>?_)
      go_simp
      refine hK.out _ _ (fun h=>absurd rfl h) ?_
      clear hK K
      refine wpAnyT_done (by kernel_rfl) ?_
      go_wp2_with fail
      go_roundw
      case rel=>exact ⟨_,i+1,k+1,by go_num,by go_num,by omega,by omega,HD9⟩
      case measure=>simp [intOf]; omega
    ·have hb1:=less_no (fun h=>btLt_asymm hlt h)
     have hb2:=(btLt_less _ _).2 hlt
     have hdn:decide ((i:Int) < n)=true:=by simp; omega
     have hdg:decide ((i:Int)≥n)=false:=by simp; omega
     have hdm:decide ((k:Int) < m)=true:=by simp; omega
     have hdh:decide ((k:Int)≥m)=false:=by simp; omega
     have hen:decide (i < n)=true:=by simp; omega
     have heg:decide (n≤i)=false:=by simp; omega
     have hem:decide (k < m)=true:=by simp; omega
     have heh:decide (m≤k)=false:=by simp; omega
     have HLT:=Lib.hid hlt
     clear hlt
     go_wp2_with fail
     go_quiet (fail)
     have HD:=Lib.hid (HD.out.drewN nq)
     have c0:(wr.drewN nq).cell? ⟨g,o+i * 2,none⟩=some (.string x0):=c0
     have c1:(wr.drewN nq).cell? ⟨g,o+i * 2+1,none⟩=some (.string x1):=c1
     have d0:(wr.drewN nq).cell? ⟨g',o'+k * 2,none⟩=some (.string y0):=d0
     have d1:(wr.drewN nq).cell? ⟨g',o'+k * 2+1,none⟩=some (.string y1):=d1
     generalize wr.drewN nq=w1 at *
     go_wp2_with fail
     go_quiet (fail)
     have HD:=Lib.hid (HD.out.drewN nq)
     have c0:(w1.drewN nq).cell? ⟨g,o+i * 2,none⟩=some (.string x0):=c0
     have c1:(w1.drewN nq).cell? ⟨g,o+i * 2+1,none⟩=some (.string x1):=c1
     have d0:(w1.drewN nq).cell? ⟨g',o'+k * 2,none⟩=some (.string y0):=d0
     have d1:(w1.drewN nq).cell? ⟨g',o'+k * 2+1,none⟩=some (.string y1):=d1
     generalize w1.drewN nq=w2 at *
     go_wp2_with fail
     have HDr:=Lib.hid HD.out.drew
     have hsz:=HD.out.bl.size
     clear HD
     have hS0:(fun w'=>w'.cell? ⟨g',o'+k * 2,none⟩=some (.string y0)∧w'.cell? ⟨g',o'+k * 2+1,none⟩=some (.string y1)) w2.drew:=⟨d0,d1⟩
     refine wp_region_T (S:=(fun w'=>w'.cell? ⟨g',o'+k * 2,none⟩=some (.string y0)∧w'.cell? ⟨g',o'+k * 2+1,none⟩=some (.string y1))) (t:=14) (by kernel_rfl) ?_
     refine' T2 (v:=_) 0 rfl (Or.inl ⟨by rfl,?hyb0⟩) ?restb0
     case hyb0=>intro w hSw; (try dsimp only at hSw); go_simp; (try with_reducible rfl)
     refine' T2 (v:=_) 1 rfl (Or.inl ⟨by rfl,?hyb1⟩) ?restb1
     case hyb1=>intro w hSw; (try dsimp only at hSw); go_simp; (try with_reducible rfl)
     refine' T2 (v:=_) 2 rfl (Or.inl ⟨by rfl,?hyb2⟩) ?restb2
     case hyb2=>intro w hSw; (try dsimp only at hSw); go_simp; (try with_reducible rfl)
     refine' T2 (v:=_) 3 rfl (Or.inl ⟨by rfl,?hyb3⟩) ?restb3
     case hyb3=>intro w hSw; (try dsimp only at hSw); go_simp; (try with_reducible rfl)
     refine' T2 (v:=_) 4 rfl (Or.inl ⟨by rfl,?hyb4⟩) ?restb4
     case hyb4=>intro w hSw; (try dsimp only at hSw); go_simp; (try with_reducible rfl)
     refine' T2 (v:=_) 5 rfl (Or.inl ⟨by rfl,?hyb5⟩) ?restb5
     case hyb5=>intro w hSw; (try dsimp only at hSw); go_simp; (try with_reducible rfl)
     refine' T2 (v:=_) 6 rfl (Or.inl ⟨by rfl,?hyb6⟩) ?restb6
     case hyb6=>intro w hSw; (try dsimp only at hSw); go_simp; (try with_reducible rfl)
     refine' T2 (v:=_) 7 rfl (Or.inl ⟨by rfl,?hyb7⟩) ?restb7
     case hyb7=>intro w hSw; (try dsimp only at hSw); go_simp; (try with_reducible rfl)
     refine' T2 (v:=_) 8 rfl (Or.inl ⟨by rfl,?hyb8⟩) ?restb8
     case hyb8=>intro w hSw; (try dsimp only at hSw); go_simp; (try with_reducible rfl)
     refine' T2 (v:=_) 9 rfl (Or.inl ⟨by rfl,?hyb9⟩) ?restb9
     case hyb9=>intro w hSw; (try dsimp only at hSw); go_simp; (try with_reducible rfl)
     refine' T2 (v:=_) 10 rfl (Or.inl ⟨by rfl,?hyb10⟩) ?restb10
     case hyb10=>intro w hSw; (try dsimp only at hSw); go_simp; (try with_reducible rfl)
     refine' T2 (v:=_) 11 rfl (Or.inl ⟨by rfl,?hyb11⟩) ?restb11
     case hyb11=>intro w hSw; (try dsimp only at hSw); go_simp; (try with_reducible rfl)
     try simp only [Act.put,List.setIfInBounds_toArray,List.set_cons_zero,List.set_cons_succ]
     have HBA:=Lib.hid (show Below w2.heap.size w2 (w2.drew.alloc (.cells #[.string y0,.bool false,.bool true,.string ⟨#[]⟩,.string y1] 54)) from ((Below.refl _ w2).drew).alloc (Nat.le_refl _) _)
     have a_d0:=keepc' HBA.out d0
     have a_d1:=keepc' HBA.out d1
     have hrd:=Lib.hid (reads_ch w2.drew ⟨y0,false,true,⟨#[]⟩,y1⟩)
     refine wpAnyT_one 12 (by kernel_rfl) rfl (fun K hK=>?_)
     go_simp
     refine hK.out _ _ (fun _=>⟨a_d0,a_d1⟩) ?_
     clear hK K
     refine wpAnyT_one 13 (by kernel_rfl) rfl (fun K hK=>?_)
     refine step_append_any _ (by rfl) (.tmp 74) (.tmp 86) _ (by rfl) w.heap.size 54 i0 (.agg #[.string ⟨#[]⟩,.bool false,.bool false,.string ⟨#[]⟩,.string ⟨#[]⟩]) 5 56 Tryz.underlying51 hi hz0 hz1 hz2 rfl (by decide) (.slice A5 out.length q5) out.length (chCs out) (by rfl) (HDr.out.own.alloc _) (w2.heap.size+1) (some ⟨w2.heap.size,0,none⟩) 1 1 (chC ⟨y0,false,true,⟨#[]⟩,y1⟩) (by rfl) hrd.out (by simp [chC,Value.oneCell']) (by unfold maxLen; omega) (by omega) (Nat.le_trans hsz HBA.out.size) ?_
     intro v9 w9 hown9 hg9 _
     obtain ⟨A9,q9,rfl⟩:=own_slice hown9
     have hk9:=(Keep.of_grown hg9 (fun i=>(Value.slice A5 out.length q5).ownBlock=some i) (fun k hk=>.inl hk))
     have s_d0:=hk9.cell a_d0 (fun h=>hng' _ (fun k hk=>⟨(HDr.out.own.lt k hk).1,trivial⟩) h)
     have s_d1:=hk9.cell a_d1 (fun h=>hng' _ (fun k hk=>⟨(HDr.out.own.lt k hk).1,trivial⟩) h)
     have HD9:=Lib.hid (DfAt.grown (c:=⟨y0,false,true,⟨#[]⟩,y1⟩) (i':=i) (k':=k+1) HDr.out (HDr.out.dif.two HL.out HM.out HY.out (fun x hx=>by rw [HX.out] at hx; cases hx; exact HLT.out)) (by omega) hown9 hg9)
     clear hown9 hg9 hk9
     refine hK.out _ _ (fun _=>⟨s_d0,s_d1⟩) ?_
     clear hK K
     refine wpAnyT_one 14 (by kernel_rfl) rfl (fun K hK=>?_)
     go_simp
     refine hK.out _ _ (fun h=>absurd rfl h) ?_
     clear hK K
     refine wpAnyT_done (by kernel_rfl) ?_
     go_wp2_with fail
     go_roundw
     case rel=>exact ⟨_,i,k+1,by go_num,by go_num,by omega,by omega,HD9⟩
     case measure=>simp [intOf]; omega
   ·have hdn:decide ((i:Int) < n)=true:=by simp; omega
    have hdg:decide ((i:Int)≥n)=false:=by simp; omega
    have hdm:decide ((k:Int) < m)=false:=by simp; omega
    have hdh:decide ((k:Int)≥m)=true:=by simp; omega
    have hen:decide (i < n)=true:=by simp; omega
    have heg:decide (n≤i)=false:=by simp; omega
    have hem:decide (k < m)=false:=by simp; omega
    have heh:decide (m≤k)=true:=by simp; omega
    obtain ⟨g,o,hl1,rfl,c0w,c1w⟩:=H.out.at_ hi1
    have hgw:=World.block_lt_of_cell? w _ c0w
    have hng:∀ v:Value,(∀ k,v.ownBlock=some k→w.heap.size≤k∧True)→¬ v.ownBlock=some g:=fun v hv e=>by have:=(hv g e).1; simp only at hgw; omega
    have c0:=keepc' HD.out.bl c0w
    have c1:=keepc' HD.out.bl c1w
    clear c0w c1w
    have hx:l[i]? = some l[i]:=List.getElem?_eq_getElem hl1
    generalize l[i]=x at *
    obtain ⟨x0,x1⟩:=x
    simp only at c0 c1
    have HX:=Lib.hid hx
    clear hx
    go_wp2_with fail
    go_quiet (fail)
    have HD:=Lib.hid (HD.out.drewN nq)
    have c0:(wr.drewN nq).cell? ⟨g,o+i * 2,none⟩=some (.string x0):=c0
    have c1:(wr.drewN nq).cell? ⟨g,o+i * 2+1,none⟩=some (.string x1):=c1
    generalize wr.drewN nq=w1 at *
    go_wp2_with fail
    have HDr:=Lib.hid HD.out.drew
    have hsz:=HD.out.bl.size
    clear HD
    have hS0:(fun w'=>w'.cell? ⟨g,o+i * 2,none⟩=some (.string x0)∧w'.cell? ⟨g,o+i * 2+1,none⟩=some (.string x1)) w1.drew:=⟨c0,c1⟩
    refine wp_region_T (S:=(fun w'=>w'.cell? ⟨g,o+i * 2,none⟩=some (.string x0)∧w'.cell? ⟨g,o+i * 2+1,none⟩=some (.string x1))) (t:=14) (by kernel_rfl) ?_
    refine' T2 (v:=_) 0 rfl (Or.inl ⟨by rfl,?hyd0⟩) ?restd0
    case hyd0=>intro w hSw; (try dsimp only at hSw); go_simp; (try with_reducible rfl)
    refine' T2 (v:=_) 1 rfl (Or.inl ⟨by rfl,?hyd1⟩) ?restd1
    case hyd1=>intro w hSw; (try dsimp only at hSw); go_simp; (try with_reducible rfl)
    refine' T2 (v:=_) 2 rfl (Or.inl ⟨by rfl,?hyd2⟩) ?restd2
    case hyd2=>intro w hSw; (try dsimp only at hSw); go_simp; (try with_reducible rfl)
    refine' T2 (v:=_) 3 rfl (Or.inl ⟨by rfl,?hyd3⟩) ?restd3
    case hyd3=>intro w hSw; (try dsimp only at hSw); go_simp; (try with_reducible rfl)
    refine' T2 (v:=_) 4 rfl (Or.inl ⟨by rfl,?hyd4⟩) ?restd4
    case hyd4=>intro w hSw; (try dsimp only at hSw); go_simp; (try with_reducible rfl)
    refine' T2 (v:=_) 5 rfl (Or.inl ⟨by rfl,?hyd5⟩) ?restd5
    case hyd5=>intro w hSw; (try dsimp only at hSw); go_simp; (try with_reducible rfl)
    refine' T2 (v:=_) 6 rfl (Or.inl ⟨by rfl,?hyd6⟩) ?restd6
    case hyd6=>intro w hSw; (try dsimp only at hSw); go_simp; (try with_reducible rfl)
    refine' T2 (v:=_) 7 rfl (Or.inl ⟨by rfl,?hyd7⟩) ?restd7
    case hyd7=>intro w hSw; (try dsimp only at hSw); go_simp; (try with_reducible rfl)
    refine' T2 (v:=_) 8 rfl (Or.inl ⟨by rfl,?hyd8⟩) ?restd8
    case hyd8=>intro w hSw; (try dsimp only at hSw); go_simp; (try with_reducible rfl)
    refine' T2 (v:=_) 9 rfl (Or.inl ⟨by rfl,?hyd9⟩) ?restd9
    case hyd9=>intro w hSw; (try dsimp only at hSw); go_simp; (try with_reducible rfl)
    refine' T2 (v:=_) 10 rfl (Or.inl ⟨by rfl,?hyd10⟩) ?restd10
    case hyd10=>intro w hSw; (try dsimp only at hSw); go_simp; (try with_reducible rfl)
    refine' T2 (v:=_) 11 rfl (Or.inl ⟨by rfl,?hyd11⟩) ?restd11
    case hyd11=>intro w hSw; (try dsimp only at hSw); go_simp; (try with_reducible rfl)
    try simp only [Act.put,List.setIfInBounds_toArray,List.set_cons_zero,List.set_cons_succ]
    have HBA:=Lib.hid (show Below w1.heap.size w1 (w1.drew.alloc (.cells #[.string x0,.bool true,.bool false,.string x1,.string ⟨#[]⟩] 54)) from ((Below.refl _ w1).drew).alloc (Nat.le_refl _) _)
    have a_c0:=keepc' HBA.out c0
    have a_c1:=keepc' HBA.out c1
    have hrd:=Lib.hid (reads_ch w1.drew ⟨x0,true,false,x1,⟨#[]⟩⟩)
    refine wpAnyT_one 12 (by kernel_rfl) rfl (fun K hK=>?_)
    go_simp
    refine hK.out _ _ (fun _=>⟨a_c0,a_c1⟩) ?_
    clear hK K
    refine wpAnyT_one 13 (by kernel_rfl) rfl (fun K hK=>?_)
    refine step_append_any _ (by rfl) (.tmp 41) (.tmp 53) _ (by rfl) w.heap.size 54 i0 (.agg #[.string ⟨#[]⟩,.bool false,.bool false,.string ⟨#[]⟩,.string ⟨#[]⟩]) 5 56 Tryz.underlying51 hi hz0 hz1 hz2 rfl (by decide) (.slice A5 out.length q5) out.length (chCs out) (by rfl) (HDr.out.own.alloc _) (w1.heap.size+1) (some ⟨w1.heap.size,0,none⟩) 1 1 (chC ⟨x0,true,false,x1,⟨#[]⟩⟩) (by rfl) hrd.out (by simp [chC,Value.oneCell']) (by unfold maxLen; omega) (by omega) (Nat.le_trans hsz HBA.out.size) ?_
    intro v9 w9 hown9 hg9 _
    obtain ⟨A9,q9,rfl⟩:=own_slice hown9
    have hk9:=(Keep.of_grown hg9 (fun i=>(Value.slice A5 out.length q5).ownBlock=some i) (fun k hk=>.inl hk))
    have s_c0:=hk9.cell a_c0 (fun h=>hng _ (fun k hk=>⟨(HDr.out.own.lt k hk).1,trivial⟩) h)
    have s_c1:=hk9.cell a_c1 (fun h=>hng _ (fun k hk=>⟨(HDr.out.own.lt k hk).1,trivial⟩) h)
    have HD9:=Lib.hid (DfAt.grown (c:=⟨x0,true,false,x1,⟨#[]⟩⟩) (i':=i+1) (k':=k) HDr.out (HDr.out.dif.one HL.out HM.out HX.out (fun y hy=>by have:=(List.getElem?_eq_some_iff.1 hy).1; have:=HLM.out; omega)) (by omega) hown9 hg9)
    clear hown9 hg9 hk9
    refine hK.out _ _ (fun _=>⟨s_c0,s_c1⟩) ?_
    clear hK K
    refine wpAnyT_one 14 (by kernel_rfl) rfl (fun K hK=>?_)
    go_simp
    refine hK.out _ _ (fun h=>absurd rfl h) ?_
    clear hK K
    refine wpAnyT_done (by kernel_rfl) ?_
    go_wp2_with fail
    go_roundw
    case rel=>exact ⟨_,i+1,k,by go_num,by go_num,by omega,by omega,HD9⟩
    case measure=>simp [intOf]; omega
  ·by_cases hk1:k < m
   ·have hdn:decide ((i:Int) < n)=false:=by simp; omega
    have hdg:decide ((i:Int)≥n)=true:=by simp; omega
    have hdm:decide ((k:Int) < m)=true:=by simp; omega
    have hdh:decide ((k:Int)≥m)=false:=by simp; omega
    have hen:decide (i < n)=false:=by simp; omega
    have heg:decide (n≤i)=true:=by simp; omega
    have hem:decide (k < m)=true:=by simp; omega
    have heh:decide (m≤k)=false:=by simp; omega
    obtain ⟨g',o',hl2,rfl,d0w,d1w⟩:=H'.out.at_ hk1
    have hgw':=World.block_lt_of_cell? w _ d0w
    have hng':∀ v:Value,(∀ k,v.ownBlock=some k→w.heap.size≤k∧True)→¬ v.ownBlock=some g':=fun v hv e=>by have:=(hv g' e).1; simp only at hgw'; omega
    have d0:=keepc' HD.out.bl d0w
    have d1:=keepc' HD.out.bl d1w
    clear d0w d1w
    have hy:l'[k]? = some l'[k]:=List.getElem?_eq_getElem hl2
    generalize l'[k]=y at *
    obtain ⟨y0,y1⟩:=y
    simp only at d0 d1
    have HY:=Lib.hid hy
    clear hy
    go_wp2_with fail
    go_quiet (fail)
    have HD:=Lib.hid (HD.out.drewN nq)
    have d0:(wr.drewN nq).cell? ⟨g',o'+k * 2,none⟩=some (.string y0):=d0
    have d1:(wr.drewN nq).cell? ⟨g',o'+k * 2+1,none⟩=some (.string y1):=d1
    generalize wr.drewN nq=w1 at *
    go_wp2_with fail
    go_quiet (fail)
    have HD:=Lib.hid (HD.out.drewN nq)
    have d0:(w1.drewN nq).cell? ⟨g',o'+k * 2,none⟩=some (.string y0):=d0
    have d1:(w1.drewN nq).cell? ⟨g',o'+k * 2+1,none⟩=some (.string y1):=d1
    generalize w1.drewN nq=w2 at *
    go_wp2_with fail
    have HDr:=Lib.hid HD.out.drew
    have hsz:=HD.out.bl.size
    clear HD
    have hS0:(fun w'=>w'.cell? ⟨g',o'+k * 2,none⟩=some (.string y0)∧w'.cell? ⟨g',o'+k * 2+1,none⟩=some (.string y1)) w2.drew:=⟨d0,d1⟩
    refine wp_region_T (S:=(fun w'=>w'.cell? ⟨g',o'+k * 2,none⟩=some (.string y0)∧w'.cell? ⟨g',o'+k * 2+1,none⟩=some (.string y1))) (t:=14) (by kernel_rfl) ?_
    refine' T2 (v:=_) 0 rfl (Or.inl ⟨by rfl,?hye0⟩) ?reste0
    case hye0=>intro w hSw; (try dsimp only at hSw); go_simp; (try with_reducible rfl)
    refine' T2 (v:=_) 1 rfl (Or.inl ⟨by rfl,?hye1⟩) ?reste1
    case hye1=>intro w hSw; (try dsimp only at hSw); go_simp; (try with_reducible rfl)
    refine' T2 (v:=_) 2 rfl (Or.inl ⟨by rfl,?hye2⟩) ?reste2
    case hye2=>intro w hSw; (try dsimp only at hSw); go_simp; (try with_reducible rfl)
    refine' T2 (v:=_) 3 rfl (Or.inl ⟨by rfl,?hye3⟩) ?reste3
    case hye3=>intro w hSw; (try dsimp only at hSw); go_simp; (try with_reducible rfl)
    refine' T2 (v:=_) 4 rfl (Or.inl ⟨by rfl,?hye4⟩) ?reste4
    case hye4=>intro w hSw; (try dsimp only at hSw); go_simp; (try with_reducible rfl)
    refine' T2 (v:=_) 5 rfl (Or.inl ⟨by rfl,?hye5⟩) ?reste5
    case hye5=>intro w hSw; (try dsimp only at hSw); go_simp; (try with_reducible rfl)
    refine' T2 (v:=_) 6 rfl (Or.inl ⟨by rfl,?hye6⟩) ?reste6
    case hye6=>intro w hSw; (try dsimp only at hSw); go_simp; (try with_reducible rfl)
    refine' T2 (v:=_) 7 rfl (Or.inl ⟨by rfl,?hye7⟩) ?reste7
    case hye7=>intro w hSw; (try dsimp only at hSw); go_simp; (try with_reducible rfl)
    refine' T2 (v:=_) 8 rfl (Or.inl ⟨by rfl,?hye8⟩) ?reste8
    case hye8=>intro w hSw; (try dsimp only at hSw); go_simp; (try with_reducible rfl)
    refine' T2 (v:=_) 9 rfl (Or.inl ⟨by rfl,?hye9⟩) ?reste9
    case hye9=>intro w hSw; (try dsimp only at hSw); go_simp; (try with_reducible rfl)
    refine' T2 (v:=_) 10 rfl (Or.inl ⟨by rfl,?hye10⟩) ?reste10
    case hye10=>intro w hSw; (try dsimp only at hSw); go_simp; (try with_reducible rfl)
    refine' T2 (v:=_) 11 rfl (Or.inl ⟨by rfl,?hye11⟩) ?reste11
    case hye11=>intro w hSw; (try dsimp only at hSw); go_simp; (try with_reducible rfl)
    try simp only [Act.put,List.setIfInBounds_toArray,List.set_cons_zero,List.set_cons_succ]
    have HBA:=Lib.hid (show Below w2.heap.size w2 (w2.drew.alloc (.cells #[.string y0,.bool false,.bool true,.string ⟨#[]⟩,.string y1] 54)) from ((Below.refl _ w2).drew).alloc (Nat.le_refl _) _)
    have a_d0:=keepc' HBA.out d0
    have a_d1:=keepc' HBA.out d1
    have hrd:=Lib.hid (reads_ch w2.drew ⟨y0,false,true,⟨#[]⟩,y1⟩)
    refine wpAnyT_one 12 (by kernel_rfl) rfl (fun K hK=>?_)
    go_simp
    refine hK.out _ _ (fun _=>⟨a_d0,a_d1⟩) ?_
    clear hK K
    refine wpAnyT_one 13 (by kernel_rfl) rfl (fun K hK=>?_)
    refine step_append_any _ (by rfl) (.tmp 74) (.tmp 86) _ (by rfl) w.heap.size 54 i0 (.agg #[.string ⟨#[]⟩,.bool false,.bool false,.string ⟨#[]⟩,.string ⟨#[]⟩]) 5 56 Tryz.underlying51 hi hz0 hz1 hz2 rfl (by decide) (.slice A5 out.length q5) out.length (chCs out) (by rfl) (HDr.out.own.alloc _) (w2.heap.size+1) (some ⟨w2.heap.size,0,none⟩) 1 1 (chC ⟨y0,false,true,⟨#[]⟩,y1⟩) (by rfl) hrd.out (by simp [chC,Value.oneCell']) (by unfold maxLen; omega) (by omega) (Nat.le_trans hsz HBA.out.size) ?_
    intro v9 w9 hown9 hg9 _
    obtain ⟨A9,q9,rfl⟩:=own_slice hown9
    have hk9:=(Keep.of_grown hg9 (fun i=>(Value.slice A5 out.length q5).ownBlock=some i) (fun k hk=>.inl hk))
    have s_d0:=hk9.cell a_d0 (fun h=>hng' _ (fun k hk=>⟨(HDr.out.own.lt k hk).1,trivial⟩) h)
    have s_d1:=hk9.cell a_d1 (fun h=>hng' _ (fun k hk=>⟨(HDr.out.own.lt k hk).1,trivial⟩) h)
    have HD9:=Lib.hid (DfAt.grown (c:=⟨y0,false,true,⟨#[]⟩,y1⟩) (i':=i) (k':=k+1) HDr.out (HDr.out.dif.two HL.out HM.out HY.out (fun x hx=>by have:=(List.getElem?_eq_some_iff.1 hx).1; have:=HLN.out; omega)) (by omega) hown9 hg9)
    clear hown9 hg9 hk9
    refine hK.out _ _ (fun _=>⟨s_d0,s_d1⟩) ?_
    clear hK K
    refine wpAnyT_one 14 (by kernel_rfl) rfl (fun K hK=>?_)
    go_simp
    refine hK.out _ _ (fun h=>absurd rfl h) ?_
    clear hK K
    refine wpAnyT_done (by kernel_rfl) ?_
    go_wp2_with fail
    go_roundw
    case rel=>exact ⟨_,i,k+1,by go_num,by go_num,by omega,by omega,HD9⟩
    case measure=>simp [intOf]; omega
   ·have hd1:decide ((i:Int) < n)=false:=by simp; omega
    have hd2:decide ((k:Int) < m)=false:=by simp; omega
    have hd3:decide (i < n)=false:=by simp; omega
    have hd4:decide (k < m)=false:=by simp; omega
    have HI:Hid (i=l.length∧k=l'.length):=Lib.hid ⟨by have:=HLN.out; omega,by have:=HLM.out; omega⟩
    go_wp2_with fail
    go_ret
    obtain ⟨e1,e2⟩:=HI.out
    subst e1 e2
    exact ⟨A5,q5,out,rfl,HD.out.own,HD.out.dif,HD.out.few,HD.out.bl⟩
end Go.Proofs.YtpboohfofodeeaaGreatDoor
