/- slices.Clone, slices.Insert at pieces (conditions: none). -/
import Derived.Test.YtpboohfofodeeaaGreatDoorM22
import Derived.Lib.AppendZerosOnto
import Derived.Lib.Overlaps
import Derived.Laws.CopyOwn
import Derived.Laws.Externs
import Derived.Lib.SliceRun
namespace Go.Proofs.YtpboohfofodeeaaGreatDoor
open Go.RowKit Go.Maps
theorem Keep.row {S : Nat → Prop} {a b : World} (h : Keep S a b) {g : Nat} (hg : S g ∨ a.heap.size ≤ g) (cs : Array Value) : Keep S a (b.setRow g cs):=
 ⟨h.os,h.tape,h.output,by simpa [World.setRow] using h.size,fun i hi hn=>(setRow_other b g i cs (by
  rintro rfl
  rcases hg with hg | hg
  ·exact hn hg
  ·omega)).trans (h.block i hi hn)⟩
/-- 'copy' at elements of k cells. -/
theorem run_copy_k {P : Program} (w : World) (dT sT ty elem : TypeId) (k g o dLen dCap : Nat) (a : Addr) (sLen sCap : Nat) (cur : List Value) (t : TypeId) (cs : List Value)
 (hu : P.underlying dT = some (.slice elem)) (hs : (P.info? elem).map (·.size) = some k)
 (hg : w.heap[g]? = some (.cells cur.toArray t (0,0))) (hn : cs.length = Nat.min sLen dLen * k)
 (hsrc : ∀ j v,cs[j]? = some v → w.cell? (a.add j) = some v) (hfit : o + cs.length ≤ cur.length) (h1 : ∀ v ∈ cs,v.oneCell' = true) :
 (Builtin.copy_ #[dT,sT] ty #[.slice (some ⟨g,o,none⟩) dLen dCap,.slice (some a) sLen sCap]).run P w =
  .ok (goInt (Nat.min sLen dLen)) (w.setRow g (splice cur o cs).toArray):=by
 have hl:=run_loadCells_list (P:=P) w a cs hsrc
 have hst:=run_storeCells_at P g o t cs 0 cur.toArray w hg (by simpa using hfit) h1
 cases hq : P.info? elem with
 | none=>simp [hq] at hs
 | some i=>
  have hi : i.size = k:=by simpa [hq] using hs
  simp only [Nat.add_zero,List.append_assoc] at hst
  simp [Builtin.copy_,run_underlying hu,Builtin.lenOf,Builtin.firstCells,sizeOf,typeInfo,hq,hi,← hn,hl,hst,splice]
theorem wpList_copy_eq {P : Program} (w : World) {ops : Array Oper} {rest : List Oper} {o : Oper} {a : Act} {Q : Exit → Act → World → Prop} (hgd : o.guard = none) (d s : Operand) (t t' : TypeId)
 (ho : o.op = .call { callee:=.builtin .copy,args:=#[d,s],argTypes:=#[t,t'] }) (v u : Value) (hd : a.eval d = v) (hs : a.eval s = u) {v' : Value} {w' : World}
 (hr : (Builtin.copy_ #[t,t'] o.type #[v,u]).run P w = .ok v' w') (h : wpList P ops Q rest (a.put o.dst v') w') : wpList P ops Q (o :: rest) a w:=
 wpList_plain hgd fun K hK=>by
  unfold Oper.wp
  simp [execOp,ho,resolve,invoke,builtin,hd,hs,hr,Result.andThen]
  exact hK _ _ h
theorem pcC_one {ps : List (Int × ByteArray)} : ∀ u ∈ pcCs ps,u.oneCell' = true:=by
 intro u hu
 obtain ⟨p,_,hp⟩:=List.mem_flatMap.1 hu
 simp only [pcC,List.mem_cons,List.not_mem_nil,or_false] at hp
 rcases hp with rfl | rfl <;> rfl
theorem pcCs_len (ps : List (Int × ByteArray)) : (pcCs ps).length = ps.length * 2:=by
 induction ps with
 | nil=>rfl
 | cons x t ih=>simp [pcCs,pcC] at ih ⊢; omega
theorem pcCs_append (a b : List (Int × ByteArray)) : pcCs (a ++ b) = pcCs a ++ pcCs b:=by simp [pcCs]
theorem RdP.reads {w : World} {A : Option Addr} {n : Nat} {ps : List (Int × ByteArray)} (h : RdP w A n ps) : Reads w w.heap.size 2 A n (pcCs ps):=by
 refine ⟨by rw [pcCs_len,h.1],fun hn=>?_⟩
 obtain ⟨g,o,rfl,hc⟩:=h.2 hn
 have hl : 0 < ps.length:=by have:=h.1; omega
 have h0:=(hc 0 _ (List.getElem?_eq_getElem hl)).1
 refine ⟨_,rfl,World.block_lt_of_cell? w _ h0,fun j u hu=>?_⟩
 have e : (⟨g,o,none⟩ : Addr).add j = ⟨g,o + j,none⟩:=by unfold Addr.add; split <;> simp_all
 rw [e]
 have hu' : (ps.flatMap pcC)[0 + j]? = some u:=by rw [Nat.zero_add]; exact hu
 have hj : j < ps.length * 2:=by rw [← pcCs_len]; exact (List.getElem?_eq_some_iff.1 hu).1
 have hx:=List.getElem?_eq_getElem (l:=ps) (i:=j / 2) (by omega)
 have hf:=flat_at pcC (fun _=>rfl) ps
 have hq:=hu'
 rw [show 0 + j = 0 + (j / 2) * 2 + j % 2 by omega] at hq
 obtain ⟨c0,c1⟩:=hc (j / 2) _ hx
 rcases Nat.mod_two_eq_zero_or_one j with h2 | h2
 ·rw [hf,show (0 + j / 2 * 2 + j % 2) / 2 = j / 2 by omega,show (0 + j / 2 * 2 + j % 2) % 2 = 0 by omega,hx] at hq
  have : u = .int .i64 ps[j / 2].1:=by simpa [pcC] using hq.symm
  rw [this,show o + j = o + j / 2 * 2 by omega]
  exact c0
 ·rw [hf,show (0 + j / 2 * 2 + j % 2) / 2 = j / 2 by omega,show (0 + j / 2 * 2 + j % 2) % 2 = 1 by omega,hx] at hq
  have : u = .string ps[j / 2].2:=by simpa [pcC] using hq.symm
  rw [this,show o + j = o + j / 2 * 2 + 1 by omega]
  exact c1
def CloneEnds (w : World) (ps : List (Int × ByteArray)) (e : Ending) (w' : World) : Prop:=∃ v,e = .returned v ∧ w'.ownsRow w.heap.size 111 2 v ps.length (pcCs ps)
set_option maxRecDepth 100000 in
theorem sl_clone {w : World} {A : Option Addr} {n c : Nat} {ps : List (Int × ByteArray)} (hR : RdP w A n ps) (hn : n ≤ 1099511627776) :
 Calls Tryz.prog 180 #[.slice A n c] w fun e w'=>CloneEnds w ps e w' ∧ Below w.heap.size w w':=by
 obtain ⟨i0,hi,hz0,hz1,hz2⟩:=info_parts info_piece
 have HR:=Lib.hid hR.reads
 have hlen:=hR.1
 cases A with
 | none=>
  have h0 : n = 0:=by
   rcases Nat.eq_zero_or_pos n with h | h
   ·exact h
   ·obtain ⟨g,o,e,_⟩:=hR.2 h
    cases e
  have hnil : ps = []:=List.length_eq_zero_iff.1 (by omega)
  subst hnil
  subst h0
  clear hR
  have hq:=Lib.run_eql_slice_nil (P:=Tryz.prog) w 65 111 none 0 c 0 0 Tryz.underlying65
  simp only [Option.isNone_none] at hq
  go_enter Tryz.func180,Tryz.ntmps180
  go_wp2
  go_ret
  exact ⟨⟨_,rfl,World.ownsRow_nil _ _ _ _⟩,Below.refl _ _⟩
 | some ad=>
  clear hR
  have hq:=Lib.run_eql_slice_nil (P:=Tryz.prog) w 65 111 (some ad) n c 0 0 Tryz.underlying65
  simp only [Option.isNone_some] at hq
  have hb0 : Below w.heap.size w (w.alloc (.cells #[] 111)):=(Below.refl _ _).alloc (Nat.le_refl _) _
  have hO0 : Hid ((w.alloc (.cells #[] 111)).ownsRow w.heap.size 111 2 (.slice (some ⟨w.heap.size,0,none⟩) 0 0) 0 []):=Lib.hid ⟨rfl,.inr ⟨w.heap.size,0,#[],rfl,Nat.le_refl _,heap_alloc_new w _,Nat.le_refl _,by unfold maxLen; omega,rfl,rfl⟩⟩
  have HR1 : Hid (Reads (w.alloc (.cells #[] 111)) w.heap.size 2 (some ad) n (pcCs ps)):=Lib.hid (HR.out.alloc (Nat.le_refl _) _)
  have HB0:=Lib.hid hb0
  clear hb0
  go_enter Tryz.func180,Tryz.ntmps180
  go_wp2_with (
   at_builtin
   refine wpList_append_any _ rfl _ _ _ rfl w.heap.size 111 i0 (.agg #[.int .i64 0,.string ⟨#[]⟩]) 2 24 Tryz.underlying65 hi hz0 hz1 hz2 rfl (by decide) (.slice (some ⟨w.heap.size,0,none⟩) 0 0) 0 [] rfl
    hO0.out w.heap.size (some ad) n c (pcCs ps) rfl HR1.out pcC_one (by unfold maxLen; omega) (by omega) (by simp) ?_
   intro v7 w7 hown7 hg7 hat7
   have HO7:=Lib.hid hown7
   have HB7:=Lib.hid (HB0.out.grown hg7 (by simp) (fun k hk=>(hO0.out.lt k hk).1))
   clear hown7 hg7 hat7)
  go_ret
  refine ⟨⟨_,rfl,?_⟩,HB7.out⟩
  have h:=HO7.out
  rw [Nat.zero_add,← hlen,List.nil_append] at h
  exact h
/-- The row with two cells more. -/
def insC (xs : List Value) (i : Nat) (ys : List Value) : List Value:=xs.take (i * 2) ++ ys ++ xs.drop (i * 2)
def InsEnds (W : World) (base n i : Nat) (v : Value) (xs ys : List Value) (e : Ending) (w' : World) : Prop:=∃ v',e = .returned v' ∧ w'.ownsRow base 111 2 v' (n + 1) (insC xs i ys) ∧ Keep (fun k=>v.ownBlock = some k) W w' 
set_option maxRecDepth 100000 in
set_option maxHeartbeats 4000000 in
theorem sl_insert_end {W : World} {base n vb : Nat} {v : Value} {xs : List Value} {y0 y1 : Value} (hown : W.ownsRow base 111 2 v n xs) (hB : Blk W vb 111 #[y0,y1]) (hy0 : y0.oneCell' = true) (hy1 : y1.oneCell' = true) (hb : base ≤ W.heap.size) (hn : n ≤ 1099511627776) :
 Calls Tryz.prog 183 #[v,.int .i64 n,.slice (some ⟨vb,0,none⟩) 1 1] W (InsEnds W base n n v xs [y0,y1]):=by
 obtain ⟨i0,hi,hz0,hz1,hz2⟩:=info_parts info_piece
 have hRD : Reads W W.heap.size 2 (some ⟨vb,0,none⟩) 1 [y0,y1]:=⟨rfl,fun _=>⟨_,rfl,hB.lt,fun j u hu=>by
  have e : (⟨vb,0,none⟩ : Addr).add j = ⟨vb,j,none⟩:=by unfold Addr.add; split <;> simp_all
  rw [e,hB.cell j]
  simpa using hu⟩⟩
 obtain ⟨A,q,rfl⟩:=own_slice hown
 have hq : n ≤ q:=own_cap hown
 have HRD:=Lib.hid hRD
 have HO:=Lib.hid hown
 clear hRD hown hB
 go_enter Tryz.func183,Tryz.ntmps183
 go_wp2_with (
  at_builtin
  refine wpList_append_any _ rfl _ _ _ rfl base 111 i0 (.agg #[.int .i64 0,.string ⟨#[]⟩]) 2 24 Tryz.underlying65 hi hz0 hz1 hz2 rfl (by decide) (.slice A n q) n xs rfl
   HO.out W.heap.size (some ⟨vb,0,none⟩) 1 1 [y0,y1] rfl HRD.out (by simp [hy0,hy1]) (by unfold maxLen; omega) (by omega) hb ?_
  intro v7 w7 hown7 hg7 hat7
  have HO7:=Lib.hid hown7
  have HK7:=Lib.hid (Keep.of_grown hg7 (fun k=>Value.ownBlock (.slice A n q) = some k) (fun k hk=>.inl hk))
  clear hown7 hg7 hat7)
 all_goals
  go_ret
  refine ⟨_,rfl,?_,HK7.out.mono fun k _ h=>by cases A <;> exact h⟩
  have h:=HO7.out
  have hl : xs.length = n * 2:=HO.out.1
  unfold insC
  rw [List.take_of_length_le (by omega),List.drop_eq_nil_of_le (by omega),List.append_nil]
  exact h
theorem splice_insC {cur xs : List Value} {n i : Nat} {y0 y1 : Value} (hxs : xs.length = n * 2) (hi : i ≤ n) (hcur : cur.take (n * 2) = xs) (hc : (n + 1) * 2 ≤ cur.length) :
 (splice (splice cur ((i + 1) * 2) (xs.drop (i * 2))) (i * 2) [y0,y1]).take ((n + 1) * 2) = insC xs i [y0,y1]:=by
 have h1 : (xs.drop (i * 2)).length = (n - i) * 2:=by rw [List.length_drop,hxs]; omega
 unfold insC
 have e1 : (splice (splice cur ((i + 1) * 2) (xs.drop (i * 2))) (i * 2) [y0,y1]) = cur.take (i * 2) ++ [y0,y1] ++ xs.drop (i * 2) ++ cur.drop ((n + 1) * 2):=by
  unfold splice
  have e2 : List.take (i * 2) (List.take ((i + 1) * 2) cur ++ (List.drop (i * 2) xs ++ List.drop ((i + 1) * 2 + (List.drop (i * 2) xs).length) cur)) = cur.take (i * 2):=by
   rw [List.take_append_of_le_length (by rw [List.length_take]; omega),List.take_take]
   congr 1
   omega
  have e3 : List.drop (i * 2 + [y0,y1].length) (List.take ((i + 1) * 2) cur ++ (List.drop (i * 2) xs ++ List.drop ((i + 1) * 2 + (List.drop (i * 2) xs).length) cur)) = List.drop (i * 2) xs ++ List.drop ((n + 1) * 2) cur:=by
   have hl : (List.take ((i + 1) * 2) cur).length = i * 2 + [y0,y1].length:=by rw [List.length_take]; simp; omega
   rw [← hl,List.drop_left,h1]
   congr 2
   omega
  rw [e2,e3]
  simp
 rw [e1,List.take_append_of_le_length (by simp [hxs]; omega),List.take_of_length_le (by simp [hxs]; omega),← hcur,List.take_take]
 congr 3
 omega
set_option maxRecDepth 100000 in
set_option maxHeartbeats 4000000 in
theorem sl_insert_room {W : World} {base n i vb g c : Nat} {cur : Array Value} {xs : List Value} {y0 y1 : Value} (hg : W.heap[g]? = some (.cells cur 111 (0,0))) (hbg : base ≤ g) (hxs : xs.length = n * 2) (hcap : c ≤ maxLen) (hcs : cur.size = c * 2) (htk : cur.toList.take (n * 2) = xs)
 (h1 : ∀ u ∈ xs,u.oneCell' = true) (hi : i < n) (hroom : n + 1 ≤ c) (hB : Blk W vb 111 #[y0,y1]) (hne : vb ≠ g) (hy0 : y0.oneCell' = true) (hy1 : y1.oneCell' = true) (_hb : base ≤ W.heap.size) :
 Calls Tryz.prog 183 #[.slice (some ⟨g,0,none⟩) n c,.int .i64 i,.slice (some ⟨vb,0,none⟩) 1 1] W (InsEnds W base n i (.slice (some ⟨g,0,none⟩) n c) xs [y0,y1]):=by
 obtain ⟨i0,hi0,hz0,hz1,hz2⟩:=info_parts info_piece
 have hz1' : ¬ ((1 : Int) = 0):=by omega
 have hz2' : ¬ ((i : Int) = (n : Int)):=by omega
 have hsz : (Tryz.prog.info? 111).map (·.size) = some 2:=by rw [hi0]; simp [hz1]
 have hov : ∀ lb cb,(callFunc 237 #[.slice (some ⟨vb,0,none⟩) 1 1,.slice (some ⟨g,(i + 1) * 2,none⟩) lb cb]).run Tryz.prog W = .ok (.value (.bool false)) W:=fun lb cb=>by
  have hs1 : W.shape? vb = some (111,2):=by
   have h : W.heap[vb]? = some (.cells #[y0,y1] 111 (0,0)):=hB
   simp [World.shape?,h]
  have hs2 : W.shape? g = some (111,c * 2):=by simp [World.shape?,hg,hcs]
  have hz : ∀ w,(sizeOf 111).run Tryz.prog w = .ok 2 w:=fun w=>by simp [sizeOf,typeInfo,hi0,hz1]
  rw [run_callFunc_extern Tryz.func237 (by kernel_rfl) (by kernel_rfl) (by kernel_rfl) (e:=Extern.SlicesOverlaps.overlaps #[65,65] #[4]) (by kernel_rfl),
   Lib.run_overlaps_apart W 65 4 111 Tryz.underlying65 2 hz ⟨vb,0,none⟩ ⟨g,(i + 1) * 2,none⟩ 1 1 lb cb hne 111 111 2 (c * 2) hs1 hs2 (by omega) (hB.frozen 0) (hB.frozen 2)]
  rfl
 have hn0 : (c : Int) ≥ (n : Int) + 1:=by omega
 have hc2 : ¬ (c = i + 1):=by omega
 have hc3 : ¬ (c = i):=by omega
 unfold maxLen at hcap
 go_enter Tryz.func183,Tryz.ntmps183
 have hdl : (xs.drop (i * 2)).length = (n - i) * 2:=by rw [List.length_drop,hxs]; omega
 have hcl : ∀ j u,xs[j]? = some u → W.cell? ⟨g,j,none⟩ = some u:=fun j u hu=>by
  have hj : j < n * 2:=by rw [← hxs]; exact (List.getElem?_eq_some_iff.1 hu).1
  rw [cell_of_row W g j cur _ _ hg,← hu,← htk,List.getElem?_take_of_lt hj,Array.getElem?_toList]
 have hcp1 : ∀ ty dl dc sl sc,dl = n - i → sl = n + 1 - i → (Builtin.copy_ #[65,65] ty #[.slice (some ⟨g,(i + 1) * 2,none⟩) dl dc,.slice (some ⟨g,i * 2,none⟩) sl sc]).run Tryz.prog W.drew = .ok (goInt (Nat.min sl dl)) (W.drew.setRow g (splice cur.toList ((i + 1) * 2) (xs.drop (i * 2))).toArray):=fun ty dl dc sl sc hdl1 hsl1=>
  run_copy_k W.drew _ _ ty 111 2 g ((i + 1) * 2) _ dc ⟨g,i * 2,none⟩ _ sc cur.toList 111 (xs.drop (i * 2)) Tryz.underlying65 hsz (by show W.heap[g]? = _; simpa using hg) (by rw [hdl]; show _ = min sl dl * 2; omega)
   (fun j v hj=>by
    have e : (⟨g,i * 2,none⟩ : Addr).add j = ⟨g,i * 2 + j,none⟩:=by unfold Addr.add; split <;> simp_all
    rw [e]
    exact hcl _ v (by rwa [List.getElem?_drop] at hj)) (by rw [hdl,Array.length_toList,hcs]; omega) (fun v hv=>h1 v (List.mem_of_mem_drop hv))
 have hl1 : (splice cur.toList ((i + 1) * 2) (xs.drop (i * 2))).length = c * 2:=by rw [length_splice _ _ _ (by rw [hdl,Array.length_toList,hcs]; omega),Array.length_toList,hcs]
 have hg1 : (W.drew.setRow g (splice cur.toList ((i + 1) * 2) (xs.drop (i * 2))).toArray).heap[g]? = some (.cells (splice cur.toList ((i + 1) * 2) (xs.drop (i * 2))).toArray 111 (0,0)):=setRow_heap W.drew g cur _ _ _ hg
 have hk1 : Keep (fun k=>k = g) W (W.drew.setRow g (splice cur.toList ((i + 1) * 2) (xs.drop (i * 2))).toArray):=(Keep.refl (fun k=>k = g) W).drew.row (g:=g) (.inl rfl) _
 obtain ⟨L1,hL1⟩ : ∃ L1,L1 = splice cur.toList ((i + 1) * 2) (xs.drop (i * 2)):=⟨_,rfl⟩
 rw [← hL1] at hcp1 hl1 hg1 hk1
 generalize hW1 : W.drew.setRow g L1.toArray = W1 at hcp1 hg1 hk1
 have hB1:=hB.keep hk1 hne
 have hcp2 : ∀ ty dl dc,dl = n + 1 - i → (Builtin.copy_ #[65,65] ty #[.slice (some ⟨g,i * 2,none⟩) dl dc,.slice (some ⟨vb,0,none⟩) 1 1]).run Tryz.prog W1 = .ok (goInt (Nat.min 1 dl)) (W1.setRow g (splice L1 (i * 2) [y0,y1]).toArray):=fun ty dl dc hdl1=>
  run_copy_k W1 _ _ ty 111 2 g (i * 2) _ dc ⟨vb,0,none⟩ _ 1 L1 111 [y0,y1] Tryz.underlying65 hsz hg1 (by show 2 = min 1 dl * 2; omega)
   (fun j v hj=>by
    have e : (⟨vb,0,none⟩ : Addr).add j = ⟨vb,j,none⟩:=by unfold Addr.add; split <;> simp_all
    rw [e,hB1.cell j]
    simpa using hj) (by rw [hl1]; simp; omega) (by simp [hy0,hy1])
 have hg2 : (W1.setRow g (splice L1 (i * 2) [y0,y1]).toArray).heap[g]? = some (.cells (splice L1 (i * 2) [y0,y1]).toArray 111 (0,0)):=setRow_heap W1 g _ _ _ _ hg1
 have hk2:=hk1.row (g:=g) (.inl rfl) (splice L1 (i * 2) [y0,y1]).toArray
 have HE : Hid (InsEnds W base n i (.slice (some ⟨g,0,none⟩) n c) xs [y0,y1] (.returned (.slice (some ⟨g,0,none⟩) (n + 1) c)) (W1.setRow g (splice L1 (i * 2) [y0,y1]).toArray)):=Lib.hid (by
  refine ⟨_,rfl,⟨?_,.inr ⟨g,c,_,rfl,hbg,hg2,hroom,by unfold maxLen; exact hcap,?_,?_⟩⟩,hk2.mono fun k _ h=>by rw [h]; rfl⟩
  ·unfold insC; simp [hxs]; omega
  ·rw [List.size_toArray,length_splice _ _ _ (by rw [hl1]; simp; omega),hl1]
  ·rw [hL1]
   exact splice_insC hxs (by omega) htk (by rw [Array.length_toList,hcs]; omega))
 clear hk1 hk2 hg1 hg2 hB1 hL1 hl1 hcl hdl
 go_wp2_with (simp only [hov])
 refine wp_region_quiet_tail 8 (by kernel_rfl) (by kernel_rfl) ?_
 simp only [List.take_succ_cons,List.take_zero,List.drop_succ_cons,List.drop_zero]
 repeat (go_big_quiet_step (fail))
 refine wpQuiet_nil ?_
 go_wp2
 go_ret
 exact HE.out
theorem splice_insC2 {cur xs : List Value} {n i : Nat} {y0 y1 : Value} (hxs : xs.length = n * 2) (hi : i ≤ n) (hcur : cur.take (i * 2) = xs.take (i * 2)) :
 (splice (splice cur (i * 2) [y0,y1]) ((i + 1) * 2) (xs.drop (i * 2))).take ((n + 1) * 2) = insC xs i [y0,y1]:=by
 have h1 : (xs.drop (i * 2)).length = (n - i) * 2:=by rw [List.length_drop,hxs]; omega
 have h2 : (xs.take (i * 2)).length = i * 2:=by rw [List.length_take,hxs]; omega
 unfold insC splice
 have e0 : (List.take (i * 2) cur ++ ([y0,y1] ++ List.drop (i * 2 + [y0,y1].length) cur)) = (xs.take (i * 2) ++ [y0,y1]) ++ List.drop (i * 2 + 2) cur:=by rw [hcur]; simp
 have e1 : ((i + 1) * 2) = (xs.take (i * 2) ++ [y0,y1]).length:=by rw [List.length_append,h2]; simp; omega
 have e3 : List.take ((i + 1) * 2) (List.take (i * 2) cur ++ ([y0,y1] ++ List.drop (i * 2 + [y0,y1].length) cur)) = xs.take (i * 2) ++ [y0,y1]:=by rw [e0,e1,List.take_left]
 rw [e3,← List.append_assoc]
 have e4 : (n + 1) * 2 = (xs.take (i * 2) ++ [y0,y1] ++ xs.drop (i * 2)).length:=by rw [List.length_append,← e1,h1]; omega
 rw [e4,List.take_left]
set_option maxRecDepth 100000 in
set_option maxHeartbeats 4000000 in
theorem sl_insert_full {W : World} {base n i vb g c : Nat} {cur : Array Value} {xs : List Value} {y0 y1 : Value} (hg : W.heap[g]? = some (.cells cur 111 (0,0))) (hxs : xs.length = n * 2) (hnc : n ≤ c) (htk : cur.toList.take (n * 2) = xs)
 (h1 : ∀ u ∈ xs,u.oneCell' = true) (hi : i < n) (hfull : c < n + 1) (hB : Blk W vb 111 #[y0,y1]) (hy0 : y0.oneCell' = true) (hy1 : y1.oneCell' = true) (hb : base ≤ W.heap.size) (hn : n ≤ 1099511627776) :
 Calls Tryz.prog 183 #[.slice (some ⟨g,0,none⟩) n c,.int .i64 i,.slice (some ⟨vb,0,none⟩) 1 1] W (InsEnds W base n i (.slice (some ⟨g,0,none⟩) n c) xs [y0,y1]):=by
 obtain ⟨i0,hi0,hz0,hz1,hz2⟩:=info_parts info_piece
 have hz1' : ¬ ((1 : Int) = 0):=by omega
 have hz2' : ¬ ((i : Int) = (n : Int)):=by omega
 have hsz : (Tryz.prog.info? 111).map (·.size) = some 2:=by rw [hi0]; simp [hz1]
 have hn0 : (c : Int) < (n : Int) + 1:=by omega
 have hc3 : ¬ (c = i):=by omega
 have hcl : ∀ j u,xs[j]? = some u → W.cell? ⟨g,j,none⟩ = some u:=fun j u hu=>by
  have hj : j < n * 2:=by rw [← hxs]; exact (List.getElem?_eq_some_iff.1 hu).1
  rw [cell_of_row W g j cur _ _ hg,← hu,← htk,List.getElem?_take_of_lt hj,Array.getElem?_toList]
 have htl : (xs.take (i * 2)).length = i * 2:=by rw [List.length_take,hxs]; omega
 have hdl : (xs.drop (i * 2)).length = (n - i) * 2:=by rw [List.length_drop,hxs]; omega
 have hold : (Builtin.firstCells i0.size i (.slice (some ⟨g,0,none⟩) i c)).run Tryz.prog W.drew = .ok (xs.take (i * 2)).toArray W.drew:=by
  rw [hz1]
  exact run_firstCells_some W.drew 2 i ⟨g,0,none⟩ i c (xs.take (i * 2)) htl (fun j v hj=>by
   have e : (⟨g,0,none⟩ : Addr).add j = ⟨g,j,none⟩:=by unfold Addr.add; split <;> simp_all
   rw [e]
   exact hcl j v (by
    have hjl : j < i * 2:=by rw [← htl]; exact (List.getElem?_eq_some_iff.1 hj).1
    rw [List.getElem?_take_of_lt hjl] at hj; exact hj))
 have hk : (n : Int) + 1 - (i : Int) = ((n + 1 - i : Nat) : Int):=by omega
 have hrz : ∀ ty,(Builtin.append_ #[65,3] ty #[.slice (some ⟨g,0,none⟩) i c,.int .i64 ((n + 1 - i : Nat) : Int)]).run Tryz.prog W =
  .ok (.slice (some ⟨W.heap.size,0,none⟩) (n + 1) (grownCap W (n + 1) c 111)) (W.drew.alloc (.cells ((xs.take (i * 2)).toArray ++ Builtin.zeroCells (Value.agg #[.int .i64 0,.string ⟨#[]⟩]).cells (n + 1 - i) ++ Builtin.zeroCells (Value.agg #[.int .i64 0,.string ⟨#[]⟩]).cells (grownCap W (n + 1) c 111 - (n + 1))) 111)):=fun ty=>by
  have h:=Lib.run_append_grow_zeros W 65 3 ty 111 i0 (.agg #[.int .i64 0,.string ⟨#[]⟩]) .i64 .i64 Tryz.underlying65 Tryz.underlying3 hi0 hz0 (some ⟨g,0,none⟩) i c (xs.take (i * 2)) hold (n + 1 - i) (by omega) (by rw [hz1]; omega) (by omega) (by omega)
   (by rw [hz2]; omega) (by rw [show i + (n + 1 - i) = n + 1 by omega]; exact growslice_fits (by omega) (by rw [hz2]; omega))
  rw [show i + (n + 1 - i) = n + 1 by omega] at h
  exact h
 have hGn : n + 1 ≤ grownCap W (n + 1) c 111:=grownCap_ge W _ _ _
 have hG63:=grownCap_le_maxLen W (n + 1) c 111 (by unfold maxLen; omega)
 obtain ⟨G,hG⟩ : ∃ G,G = grownCap W (n + 1) c 111:=⟨_,rfl⟩
 rw [← hG] at hrz hGn hG63
 have HG:=Lib.hid hG63
 have hG64 : G ≤ 9223372036854775807:=by unfold maxLen at hG63; omega
 obtain ⟨L0,hL0⟩ : ∃ L0 : List Value,L0 = ((xs.take (i * 2)).toArray ++ Builtin.zeroCells (Value.agg #[.int .i64 0,.string ⟨#[]⟩]).cells (n + 1 - i) ++ Builtin.zeroCells (Value.agg #[.int .i64 0,.string ⟨#[]⟩]).cells (G - (n + 1))).toList:=⟨_,rfl⟩
 have hLA : ((xs.take (i * 2)).toArray ++ Builtin.zeroCells (Value.agg #[.int .i64 0,.string ⟨#[]⟩]).cells (n + 1 - i) ++ Builtin.zeroCells (Value.agg #[.int .i64 0,.string ⟨#[]⟩]).cells (G - (n + 1))) = L0.toArray:=by rw [hL0]
 rw [hLA] at hrz
 have hl0 : L0.length = G * 2:=by rw [hL0]; simp [Builtin.zeroCells,Value.cells,hxs]; omega
 have ht0 : L0.take (i * 2) = xs.take (i * 2):=by
  rw [hL0]
  simp only [Array.toList_append,List.append_assoc]
  rw [List.take_append_of_le_length (by show i * 2 ≤ (xs.take (i * 2)).length; omega)]
  show (xs.take (i * 2)).take (i * 2) = _
  rw [List.take_take,Nat.min_self]
 clear hL0 hLA hold hG hG63
 have hc4 : ¬ (G = i):=by omega
 have hc5 : ¬ (G = i + 1):=by omega
 obtain ⟨W1,hW1⟩ : ∃ W1,W1 = W.drew.alloc (.cells L0.toArray 111):=⟨_,rfl⟩
 have hb1 : Below W.heap.size W W1:=by rw [hW1]; exact (Below.refl _ _).drew.alloc (Nat.le_refl _) _
 have hg1 : W1.heap[W.heap.size]? = some (.cells L0.toArray 111 (0,0)):=by rw [hW1]; exact heap_alloc_new W.drew _
 rw [← hW1] at hrz
 clear hW1
 have hB1:=blk_below hB hb1
 have hcl1 : ∀ j u,xs[j]? = some u → W1.cell? ⟨g,j,none⟩ = some u:=fun j u hu=>keepc' hb1 (hcl j u hu)
 have hlt : vb < W.heap.size:=hB.lt
 have hltg : g < W.heap.size:=lt_of_heap hg
 have hcp1 : ∀ ty dl dc,dl = n + 1 - i → (Builtin.copy_ #[65,65] ty #[.slice (some ⟨W.heap.size,i * 2,none⟩) dl dc,.slice (some ⟨vb,0,none⟩) 1 1]).run Tryz.prog W1 = .ok (goInt (Nat.min 1 dl)) (W1.setRow W.heap.size (splice L0 (i * 2) [y0,y1]).toArray):=fun ty dl dc hdl1=>
  run_copy_k W1 _ _ ty 111 2 W.heap.size (i * 2) _ dc ⟨vb,0,none⟩ _ 1 L0 111 [y0,y1] Tryz.underlying65 hsz hg1 (by show 2 = min 1 dl * 2; omega)
   (fun j v hj=>by
    have e : (⟨vb,0,none⟩ : Addr).add j = ⟨vb,j,none⟩:=by unfold Addr.add; split <;> simp_all
    rw [e,hB1.cell j]
    simpa using hj) (by rw [hl0]; simp; omega) (by simp [hy0,hy1])
 have hl1 : (splice L0 (i * 2) [y0,y1]).length = G * 2:=by rw [length_splice _ _ _ (by rw [hl0]; simp; omega),hl0]
 have hg2 : (W1.setRow W.heap.size (splice L0 (i * 2) [y0,y1]).toArray).heap[W.heap.size]? = some (.cells (splice L0 (i * 2) [y0,y1]).toArray 111 (0,0)):=setRow_heap W1 _ _ _ _ _ hg1
 have hb2 : Below W.heap.size W (W1.setRow W.heap.size (splice L0 (i * 2) [y0,y1]).toArray):=below_setRow hb1 (Nat.le_refl _) _
 have hcl2 : ∀ j u,xs[j]? = some u → (W1.setRow W.heap.size (splice L0 (i * 2) [y0,y1]).toArray).cell? ⟨g,j,none⟩ = some u:=fun j u hu=>keepc' hb2 (hcl j u hu)
 have hins:=splice_insC2 (y0:=y0) (y1:=y1) hxs (Nat.le_of_lt hi) ht0
 generalize splice L0 (i * 2) [y0,y1] = L1 at hcp1 hl1 hg2 hb2 hcl2 hins
 obtain ⟨W2,hW2⟩ : ∃ W2,W2 = W1.setRow W.heap.size L1.toArray:=⟨_,rfl⟩
 rw [← hW2] at hcp1 hg2 hb2 hcl2
 clear hW2
 have hcp2 : ∀ ty dl dc sl sc,dl = n - i → sl = n - i → (Builtin.copy_ #[65,65] ty #[.slice (some ⟨W.heap.size,(i + 1) * 2,none⟩) dl dc,.slice (some ⟨g,i * 2,none⟩) sl sc]).run Tryz.prog W2.drew = .ok (goInt (Nat.min sl dl)) (W2.drew.setRow W.heap.size (splice L1 ((i + 1) * 2) (xs.drop (i * 2))).toArray):=fun ty dl dc sl sc hdl1 hsl1=>
  run_copy_k W2.drew _ _ ty 111 2 W.heap.size ((i + 1) * 2) _ dc ⟨g,i * 2,none⟩ _ sc L1 111 (xs.drop (i * 2)) Tryz.underlying65 hsz hg2 (by rw [hdl]; show _ = min sl dl * 2; omega)
   (fun j v hj=>by
    have e : (⟨g,i * 2,none⟩ : Addr).add j = ⟨g,i * 2 + j,none⟩:=by unfold Addr.add; split <;> simp_all
    rw [e]
    exact hcl2 _ v (by rwa [List.getElem?_drop] at hj)) (by rw [hdl,hl1]; omega) (fun v hv=>h1 v (List.mem_of_mem_drop hv))
 have hg3 : (W2.drew.setRow W.heap.size (splice L1 ((i + 1) * 2) (xs.drop (i * 2))).toArray).heap[W.heap.size]? = some (.cells (splice L1 ((i + 1) * 2) (xs.drop (i * 2))).toArray 111 (0,0)):=setRow_heap W2.drew _ _ _ _ _ hg2
 have hb3 : Below W.heap.size W (W2.drew.setRow W.heap.size (splice L1 ((i + 1) * 2) (xs.drop (i * 2))).toArray):=below_setRow hb2.drew (Nat.le_refl _) _
 have HE : Hid (InsEnds W base n i (.slice (some ⟨g,0,none⟩) n c) xs [y0,y1] (.returned (.slice (some ⟨W.heap.size,0,none⟩) (n + 1) G)) (W2.drew.setRow W.heap.size (splice L1 ((i + 1) * 2) (xs.drop (i * 2))).toArray)):=Lib.hid (by
  refine ⟨_,rfl,⟨?_,.inr ⟨W.heap.size,G,_,rfl,hb,hg3,by omega,HG.out,?_,?_⟩⟩,Keep.of_below hb3 _⟩
  ·unfold insC; simp [hxs]; omega
  ·rw [List.size_toArray,length_splice _ _ _ (by rw [hdl,hl1]; omega),hl1]
  ·exact hins)
 clear hg1 hg2 hg3 hb1 hb2 hb3 hcl hcl1 hcl2 hB1 hins hl0 hl1 ht0 htl hdl
 go_enter Tryz.func183,Tryz.ntmps183
 go_wp2_with (at_builtin; refine Lib.wpList_append_run _ rfl _ _ _ _ rfl _ _ rfl rfl _ _ (hrz _) ?_)
 refine wp_region_quiet_tail 8 (by kernel_rfl) (by kernel_rfl) ?_
 simp only [List.take_succ_cons,List.take_zero,List.drop_succ_cons,List.drop_zero]
 repeat (go_big_quiet_step (fail))
 refine wpQuiet_nil ?_
 go_wp2
 go_ret
 exact HE.out
theorem sl_insert {W : World} {base n i vb : Nat} {v : Value} {xs : List Value} {y0 y1 : Value} (hown : W.ownsRow base 111 2 v n xs) (h1 : ∀ u ∈ xs,u.oneCell' = true) (hi : i ≤ n) (hB : Blk W vb 111 #[y0,y1]) (hne : v.ownBlock ≠ some vb) (hy0 : y0.oneCell' = true) (hy1 : y1.oneCell' = true) (hb : base ≤ W.heap.size) (hn : n ≤ 1099511627776) :
 Calls Tryz.prog 183 #[v,.int .i64 i,.slice (some ⟨vb,0,none⟩) 1 1] W (InsEnds W base n i v xs [y0,y1]):=by
 rcases Nat.lt_or_eq_of_le hi with hlt | rfl
 ·have hxs:=hown.1
  rcases hown.2 with ⟨_,h0⟩ | ⟨g,cap,cur,rfl,hbg,hg,hnc,hcap,hcs,htk⟩
  ·omega
  ·by_cases hr : n + 1 ≤ cap
   ·exact sl_insert_room hg hbg hxs hcap hcs htk h1 hlt hr hB (fun e=>hne (by rw [e]; rfl)) hy0 hy1 hb
   ·exact sl_insert_full hg hxs hnc htk h1 hlt (by omega) hB hy0 hy1 hb hn
 ·exact sl_insert_end hown hB hy0 hy1 hb hn
end Go.Proofs.YtpboohfofodeeaaGreatDoor
