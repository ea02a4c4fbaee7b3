/- files: what node answers, and leaves (conditions: none). -/
import Derived.Test.YtpboohfofodeeaaGreatDoorM27
import Derived.Test.YtpboohfofodeeaaGreatDoorM21
import Derived.Test.YtpboohfofodeeaaGreatDoorM01
namespace Go.Proofs.YtpboohfofodeeaaGreatDoor
open Go.RowKit Go.Maps
def withAt (fs : FS) (ino : Int) (a : NodeA) (fa : ByteArray → Option ByteArray) : FS:={ fs with N:=upd fs.N ino { a with at_:=fa } }
def withNd (fs : FS) (ino : Int) (a : NodeA) (nd : ND) : FS:={ fs with N:=upd fs.N ino { a with nd:=nd } }
/-- What is asked, or changed, of an inode alone: the answer, the files. -/
def NodeR (fs : FS) (ino : Int) (a : NodeA) (o : OpA) (p : AnsP) (fs' : FS) : Prop:=
 (o.kind = 12 ∧ p = ansP0 0 ∧ fs' = withAt fs ino a (updK a.at_ o.name o.data)) ∨
 (o.kind = 13 ∧ fs' = fs ∧ ((a.at_ o.name = none ∧ p = ansP0 168) ∨ ∃ v,a.at_ o.name = some v ∧ p = { ansP0 0 with data:=v })) ∨
 (o.kind = 14 ∧ ((a.at_ o.name = none ∧ p = ansP0 168 ∧ fs' = fs) ∨ ((a.at_ o.name).isSome = true ∧ p = ansP0 0 ∧ fs' = withAt fs ino a (remK a.at_ o.name)))) ∨
 (o.kind = 15 ∧ fs' = fs ∧ ∃ l : List ByteArray,l.Nodup ∧ (∀ s,s ∈ l ↔ (a.at_ s).isSome = true) ∧ p = { ansP0 0 with names:=sortT l }) ∨
 (o.kind = 16 ∧ p = ansP0 0 ∧ fs' = withNd fs ino a { a.nd with mode:=o.n }) ∨
 (o.kind = 17 ∧ p = ansP0 0 ∧ fs' = withNd fs ino a { a.nd with time:=o.n }) ∨
 (o.kind = 18 ∧ fs' = fs ∧ ((a.nd.kind ≠ 2 ∧ p = ansP0 162) ∨ (a.nd.kind = 2 ∧ ∃ l,NamesIn fs.G ino (fun _=>True) l ∧ p = { ansP0 0 with names:=sortT l }))) ∨
 (o.kind = 19 ∧ fs' = fs ∧ ((a.nd.kind ≠ 3 ∧ p = ansP0 167) ∨ (a.nd.kind = 3 ∧ p = { ansP0 0 with data:=a.nd.target }))) ∨
 (o.kind = 20 ∧ fs' = fs ∧ p = { ansP0 0 with ino:=ino,nd:=a.nd })
def NodeEnds [Fence] (c : Nat) (w : World) (f b m : Nat) (fs : FS) (ino : Int) (a : NodeA) (o : OpA) (e : Ending) (w' : World) : Prop:=
 ∃ (an : Ans) (p : AnsP) (fs' : FS) (own' : Int → Own),e = .returned an.val ∧ AnsIn w' w.heap.size an p ∧ NodeR fs ino a o p fs' ∧ FlsB (c + 5000) w' f b m own' fs' ∧ KeepF w w'
section
variable {fs : FS} {ino : Int} {a : NodeA} {o : OpA}
theorem nodeR_set (h : o.kind = 12) : NodeR fs ino a o (ansP0 0) (withAt fs ino a (updK a.at_ o.name o.data)):=.inl ⟨h,rfl,rfl⟩
theorem nodeR_get_no (h : o.kind = 13) (h1 : a.at_ o.name = none) : NodeR fs ino a o (ansP0 168) fs:=.inr (.inl ⟨h,rfl,.inl ⟨h1,rfl⟩⟩)
theorem nodeR_get (h : o.kind = 13) {v : ByteArray} (h1 : a.at_ o.name = some v) : NodeR fs ino a o { ansP0 0 with data:=v } fs:=.inr (.inl ⟨h,rfl,.inr ⟨v,h1,rfl⟩⟩)
theorem nodeR_del_no (h : o.kind = 14) (h1 : a.at_ o.name = none) : NodeR fs ino a o (ansP0 168) fs:=.inr (.inr (.inl ⟨h,.inl ⟨h1,rfl,rfl⟩⟩))
theorem nodeR_del (h : o.kind = 14) (h1 : (a.at_ o.name).isSome = true) : NodeR fs ino a o (ansP0 0) (withAt fs ino a (remK a.at_ o.name)):=.inr (.inr (.inl ⟨h,.inr ⟨h1,rfl,rfl⟩⟩))
theorem nodeR_attrs (h : o.kind = 15) {l : List ByteArray} (h1 : l.Nodup) (h2 : ∀ s,s ∈ l ↔ (a.at_ s).isSome = true) : NodeR fs ino a o { ansP0 0 with names:=sortT l } fs:=.inr (.inr (.inr (.inl ⟨h,rfl,l,h1,h2,rfl⟩)))
theorem nodeR_mode (h : o.kind = 16) : NodeR fs ino a o (ansP0 0) (withNd fs ino a { a.nd with mode:=o.n }):=.inr (.inr (.inr (.inr (.inl ⟨h,rfl,rfl⟩))))
theorem nodeR_time (h : o.kind = 17) : NodeR fs ino a o (ansP0 0) (withNd fs ino a { a.nd with time:=o.n }):=.inr (.inr (.inr (.inr (.inr (.inl ⟨h,rfl,rfl⟩)))))
theorem nodeR_list_no (h : o.kind = 18) (h1 : a.nd.kind ≠ 2) : NodeR fs ino a o (ansP0 162) fs:=.inr (.inr (.inr (.inr (.inr (.inr (.inl ⟨h,rfl,.inl ⟨h1,rfl⟩⟩))))))
theorem nodeR_list (h : o.kind = 18) (h1 : a.nd.kind = 2) {l : List ByteArray} (h2 : NamesIn fs.G ino (fun _=>True) l) : NodeR fs ino a o { ansP0 0 with names:=sortT l } fs:=.inr (.inr (.inr (.inr (.inr (.inr (.inl ⟨h,rfl,.inr ⟨h1,l,h2,rfl⟩⟩))))))
theorem nodeR_link_no (h : o.kind = 19) (h1 : a.nd.kind ≠ 3) : NodeR fs ino a o (ansP0 167) fs:=.inr (.inr (.inr (.inr (.inr (.inr (.inr (.inl ⟨h,rfl,.inl ⟨h1,rfl⟩⟩)))))))
theorem nodeR_link (h : o.kind = 19) (h1 : a.nd.kind = 3) : NodeR fs ino a o { ansP0 0 with data:=a.nd.target } fs:=.inr (.inr (.inr (.inr (.inr (.inr (.inr (.inl ⟨h,rfl,.inr ⟨h1,rfl⟩⟩)))))))
theorem nodeR_stat (h : o.kind = 20) : NodeR fs ino a o { ansP0 0 with ino:=ino,nd:=a.nd } fs:=.inr (.inr (.inr (.inr (.inr (.inr (.inr (.inr ⟨h,rfl,rfl⟩)))))))
end
end Go.Proofs.YtpboohfofodeeaaGreatDoor
/- state.Sorted at a map of texts (conditions: none). -/
namespace Go.Proofs.YtpboohfofodeeaaGreatDoor
open Go.RowKit Go.Maps Go.Shelf
open Go.Sort hiding Below
theorem keys_nodup {P : Program} {kt : TypeId} {w : World} {b n : Nat} {D : DataW Value} (hown : w.ownsMap P kt Rv b n D) (K : Keyed P kt) (hk : P.underlying kt = some .string) : (strKeys D).Nodup ∧ ∀ x,x ∈ strKeys D ↔ Maps.has D (.string x) = true:=by
 obtain ⟨es,hD,hpw,_⟩:=hown.entries K
 obtain ⟨es',hD',hko⟩:=hown.keysOf
 obtain rfl : es = es':=by rw [hD] at hD'; simpa using hD'
 subst hD
 have hks : ∀ p ∈ es,∃ x,p.1 = .string x:=fun p hp=>by
  obtain ⟨v,hv⟩:=hko p hp
  obtain ⟨x,_,hx,_⟩:=Maps.keyOf_str hk hv
  exact ⟨x,hx⟩
 have hnd : (es.map fun p=>strOf p.1).Nodup:=List.pairwise_map.2 (hpw.imp_of_mem fun {p q} hp' hq' hne e=>hne (by
  obtain ⟨a,ha⟩:=hks p hp'
  obtain ⟨c,hc⟩:=hks q hq'
  rw [ha,hc] at e ⊢
  exact congrArg _ e))
 refine ⟨hnd,fun x=>?_⟩
 ·rw [has_eq,List.any_eq_true]
  show x ∈ es.map (fun p=>strOf p.1) ↔ _
  rw [List.mem_map]
  constructor
  ·rintro ⟨p,hp',rfl⟩
   obtain ⟨a,ha⟩:=hks p hp'
   exact ⟨p,hp',by rw [ha]; simp [Lit.sameKey,strOf]⟩
  ·rintro ⟨p,hp',hs⟩
   obtain ⟨a,ha⟩:=hks p hp'
   rw [ha] at hs
   exact ⟨p,hp',by rw [ha]; simpa [Lit.sameKey,strOf] using hs⟩
def SortedEnds (w : World) (fa : ByteArray → Option ByteArray) (e : Ending) (w' : World) : Prop:=∃ A q l,e = .returned (.slice A l.length q) ∧ (l.Nodup ∧ ∀ s,s ∈ l ↔ (fa s).isSome = true) ∧ w'.ownsRow w.heap.size 9 1 (.slice A l.length q) l.length (strV (sortT l))
set_option maxHeartbeats 1000000 in
theorem st_sorted {w : World} {b n : Nat} {fa : ByteArray → Option ByteArray} (h : MapK litS Tryz.prog 9 w b (atV fa) n) (hn : n ≤ 274877906944) :
 Calls Tryz.prog 116 #[.map (some b)] w fun e w'=>SortedEnds w fa e w' ∧ Below w.heap.size w w':=by
 obtain ⟨D0,hown,hsz,hval⟩:=h
 have hmax : Maps.size D0 ≤ maxLen:=by rw [hsz]; unfold maxLen; omega
 have hbytes : Maps.size D0 * 16 ≤ 140737488355328:=by rw [hsz]; omega
 have hkn:=keys_nodup hown (string_keyed Tryz.underlying9) Tryz.underlying9
 have hmem : ∀ s : ByteArray,s.data.toList ∈ strKeys D0 ↔ (fa s).isSome = true:=fun s=>by
  rw [hkn.2]
  have h1:=isSome_valAtK hown (encS_string Tryz.underlying9) s
  rw [hval s] at h1
  unfold atV at h1
  rw [Option.isSome_map] at h1
  rw [h1]
  rfl
 refine (callsIn_wide (n:=6)).1 ?_
 have hfK : Fence.wide.fn 188:=trivial
 have hfS : Fence.wide.fn 187:=trivial
 refine callsIn_of_wp Tryz.func116 rfl trivial ?_ rfl
 simp only [Tryz.ntmps116,List.size_toArray,List.length_cons,List.length_nil,Nat.reduceAdd,Nat.reduceSub,Array.replicate_succ,Array.replicate_zero,List.push_toArray,List.append_toArray,List.nil_append,List.cons_append]
 gi_wp2_with (first
  |(gi_at_call 188; refine (Tryz.maps_Keys_188 _ _).mono ?_; rintro e w' ⟨rfl,rfl⟩)
  |(gi_at_call 187; refine (Tryz.slices_Sorted_keys_187_188 b n D0 Rv w hown hmax hbytes).mono ?_; rintro e w' ⟨v,ss,rfl,hS,hrow,hnil,hb⟩))
 go_ret
 have hrow2:=ownsRow_base_a hrow (base':=w.heap.size) (by simp)
 have hbb : Below w.heap.size w w':=((Below.refl _ w).alloc (Nat.le_refl _) _).trans (hb.mono (by simp))
 obtain ⟨A,q,rfl⟩:=own_slice hrow2
 have hln : (ss.map fun x : List UInt8=>(⟨x.toArray⟩ : ByteArray)).length = ss.length:=List.length_map ..
 have hnl : (ss.map fun x : List UInt8=>(⟨x.toArray⟩ : ByteArray)).Nodup:=List.pairwise_map.2 ((hS.nodup_iff.2 hkn.1).imp fun {x y} hne e=>hne (by
  injection e with e
  simpa using e))
 obtain ⟨l,hl⟩ : ∃ l,l = (ss.map fun x : List UInt8=>(⟨x.toArray⟩ : ByteArray)):=⟨_,rfl⟩
 rw [← hl] at hln hnl
 refine ⟨⟨A,q,l,(by rw [hln]; rfl),⟨hnl,fun s=>?_⟩,?_⟩,hbb⟩
 ·rw [← hmem s,hl,List.mem_map]
  constructor
  ·rintro ⟨x,hx,rfl⟩
   exact hS.mem_iff.1 hx
  ·intro hx
   exact ⟨_,hS.mem_iff.2 hx,rfl⟩
 ·rw [hln,hl]
  have e : strV (sortT (ss.map fun x : List UInt8=>(⟨x.toArray⟩ : ByteArray))) = (ss.mergeSort (fun x y=>decide (x ≤ y))).map encStr:=by
   unfold sortT strV
   have e1 : (List.map (fun s : ByteArray=>s.data.toList) (ss.map fun x : List UInt8=>(⟨x.toArray⟩ : ByteArray))) = ss:=by
    rw [List.map_map]
    conv=>rhs; rw [← List.map_id ss]
    rfl
   rw [e1,List.map_map]
   rfl
  rw [e]
  exact hrow2
end Go.Proofs.YtpboohfofodeeaaGreatDoor
