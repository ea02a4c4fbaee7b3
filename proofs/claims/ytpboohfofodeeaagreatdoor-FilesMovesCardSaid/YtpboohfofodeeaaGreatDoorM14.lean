/- state: Items, words for the walk; slices.SortFunc at items (conditions: none). -/
import Derived.Test.YtpboohfofodeeaaGreatDoorM13
namespace Go.Proofs.YtpboohfofodeeaaGreatDoor
open Go.RowKit Go.Maps Go.Shelf
open Go.Sort hiding Below
theorem text_is (kind ino : Int) (name : ByteArray) (ix : Int) (W : World) (hs : name.size ≤ 140737488351232) : Calls Tryz.prog 61 #[.agg #[.int .u8 kind,.int .i64 ino,.string name,.int .i64 ix]] W fun e w'=>e = .returned (.string (textS_ kind ino name ix)) ∧ Below W.heap.size W w':=st_text kind ino name ix W hs
theorem enc_is (n : ND) (W : World) (hs : n.target.size ≤ 140737488351232) : Calls Tryz.prog 63 #[.agg #[.int .i64 n.kind,.int .i64 n.mode,.int .i64 n.time,.int .i64 n.links,.int .i64 n.size,.string n.target]] W fun e w'=>(∃ er,e = .returned (.tuple #[.string (encV n),.int .i64 er])) ∧ Below W.heap.size W w':=
 (in_encode n W hs).mono fun e w' ⟨he,hb⟩=>⟨he.elim (fun h=>⟨0,by unfold encV; rw [if_pos h.2]; exact h.1⟩) (fun h=>⟨1,by unfold encV; rw [if_neg h.2]; exact h.1⟩),hb⟩
theorem num_is (n : Int) (W : World) : Calls Tryz.prog 60 #[.int .i64 n] W fun e w'=>(∃ er,e = .returned (.tuple #[.string (numV n),.int .i64 er])) ∧ Below W.heap.size W w':=
 (in_number n W).mono fun e w' ⟨he,hb⟩=>⟨he.elim (fun h=>⟨0,by unfold numV; rw [if_pos h.1]; exact h.2⟩) (fun h=>⟨1,by unfold numV; rw [if_neg h.1]; exact h.2⟩),hb⟩
theorem out_step {w W w6 : World} {X : Obj} {o v2 : Value} {R : List (KK × ByteArray)} {M : KK × ByteArray → Prop} {q : KK × ByteArray} (hO : OutAt w W o R M) (hq : ¬ M q) (hown2 : w6.ownsRow w.heap.size 59 2 v2 (R.length + 1) (itCs (R.map itx) ++ itC (itx q))) (hg : (W.alloc X).grownBy w6 o.ownBlock) :
 OutAt w w6 v2 (R ++ [q]) (fun x=>M x ∨ x = q) ∧ Keep (fun i=>some i = o.ownBlock) W w6:=
 ⟨OutAt.snoc q hO.nodup hO.mem hq hown2,((Keep.refl _ W).alloc _).grown hg (fun _k hk=>.inl hk.symm)⟩
theorem out_below {w W w6 : World} {o : Value} {R : List (KK × ByteArray)} {M : KK × ByteArray → Prop} (hO : OutAt w W o R M) (hb : Below w.heap.size w W) (hk : Keep (fun i=>some i = o.ownBlock) W w6) : Below w.heap.size w w6:=hb.trans (hk.to_below hb.size (fun _i hi=>own_ge hO.own hi.symm))
theorem out_first (w W : World) (hb : w.heap.size ≤ W.heap.size) (q : KK × ByteArray) : OutAt w (W.alloc (.cells #[.string (kkText q.1),.string q.2] 59)) (.slice (some ⟨W.heap.size,0,none⟩) 1 1) [q] (fun x=>x = q):=
 ⟨⟨rfl,.inr ⟨W.heap.size,1,_,rfl,hb,heap_alloc_new W _,Nat.le_refl _,by unfold maxLen; omega,rfl,rfl⟩⟩,by simp,fun x=>by simp⟩
/-- slices.SortFunc at items. -/
def SortIt : Prop:=∀ (W : World) (base n : Nat) (v : Value) (l : List (ByteArray × ByteArray)),l ≠ [] → n = l.length → W.ownsRow base 59 2 v n (itCs l) → n ≤ 1099511627776 →
 Calls Tryz.prog 64 #[v,.func (.func 65) #[] #[]] W fun e w'=>e = .returned (.tuple #[]) ∧ ∃ l' : List (ByteArray × ByteArray),l'.Perm l ∧ l'.Pairwise (fun a b=>¬ btLt b.1 a.1) ∧ w'.ownsRow base 59 2 v n (itCs l') ∧ Keep (fun i=>v.ownBlock = some i) W w'
theorem grow_two (w : World) (A B : Obj) : (w.alloc A).alloc B = Sort.grow (w.drewN 0) #[A,B]:=rfl
theorem it_cmp (x y : ByteArray × ByteArray) (w : World) : Calls Tryz.prog 65 #[.agg #[.string x.1,.string x.2],.agg #[.string y.1,.string y.2]] w fun e w'=>e = .returned (.int .i64 (Lib.compareBytes x.1.data.toList y.1.data.toList)) ∧ ∃ q os,w' = Sort.grow (w.drewN q) os:=by
 have hs : Hid (∀ W,Calls Tryz.prog 66 #[.string x.1,.string y.1] W fun e w'=>e = .returned (.int .i64 (Lib.compareBytes x.1.data.toList y.1.data.toList)) ∧ w' = W):=Lib.hid fun W=>Tryz.strings_Compare x.1 y.1 W
 generalize Lib.compareBytes x.1.data.toList y.1.data.toList = r at *
 go_enter Tryz.func65,Tryz.ntmps65
 go_wp2_with (go_at_call 66; refine (hs.out _).mono ?_; rintro e w' ⟨rfl,rfl⟩)
 go_ret
 exact ⟨rfl,0,_,grow_two w _ _⟩
theorem sort_items : SortIt:=by
 intro W base n v l hne hn hown hlim
 obtain ⟨g,c,rfl,_,hlt⟩:=own_block hown (fun e=>hne (List.length_eq_zero_iff.1 (hn ▸ e)))
 have hk : ∀ x,(itC x).length = 2:=fun _=>rfl
 have hH:=row_holds itC hk hown hn
 have eg : ∀ args w,(callFunc 65 args).run Tryz.prog w = .ok (.enter 65 args) w:=enters_of Tryz.func65 (by kernel_rfl) rfl
 have hcmp : CmpLays Tryz.prog 65 #[] itC 2 (fun a b=>Lib.compareBytes a.1.data.toList b.1.data.toList) g 0 l.toArray.size W:=fun m os dk _ x y=>it_cmp x y _
 have hO : SWO (ltOf fun a b : ByteArray × ByteArray=>Lib.compareBytes a.1.data.toList b.1.data.toList):=swo_of _ (fun x=>by rw [cb_self]; omega) (fun x y z h k=>cb_trans _ _ _ h k) (fun x y=>(btLt_tri x.1 y.1).imp id fun h=>h.imp (fun h z=>by rw [h]) id)
 have hcon:=AnyQ.slices_SortFunc Tryz.sortItems 2 Tryz.isAgg59 Tryz.sizeOf59 itC hk (fun x v hv=>by simp [itC] at hv; rcases hv with rfl | rfl <;> rfl) (fun a b=>Lib.compareBytes a.1.data.toList b.1.data.toList) hO 65 #[] g 0 c l.toArray W eg hcmp hH hlt (by simp; omega)
 have hsz : l.toArray.size = n:=by simp [hn]
 rw [hsz] at hcon
 refine Calls.mono hcon fun e w' h=>?_
 obtain ⟨he,d',q,os,hp,hs,rfl⟩:=h
 rw [← hsz] at hp hs
 obtain ⟨h1,h2⟩:=sorted_list hp hs
 have hr:=row_sorted (q:=q) (os:=os) itC hk hown hn (l':=d'.toList) h1.length_eq
 exact ⟨he,d'.toList,h1,h2,hr.1,hr.2.mono fun i _ h=>by simp [Value.ownBlock,h]⟩
end Go.Proofs.YtpboohfofodeeaaGreatDoor
