/- inode.Encode (conditions: none). -/
import Derived.Test.YtpboohfofodeeaaGreatDoorM05
import Derived.Deep.RegionHeld3
namespace Go.Proofs.YtpboohfofodeeaaGreatDoor
open Go.RowKit Go.Maps
def shS (n : Int) : ByteArray:=strOfNums (shL n)
theorem shS_size (n : Int) : (shS n).size ≤ 10:=by unfold shS; rw [strOfNums_size]; exact (shL_len _).2
/-- What an inode's bytes begin with. -/
def encH (n : ND) : ByteArray:=strOfNums [n.kind] ++ shS n.mode ++ fix8 (IntKind.u64.wrap n.time) ++ shS n.links
def encS (n : ND) : ByteArray:=if n.kind = 1 then encH n ++ shS n.size else if n.kind = 3 then encH n ++ (shS n.target.size ++ n.target) else encH n
theorem nd_cells {w : World} {b : Nat} {t : TypeId} {n : ND} (h : Blk w b t n.cs) : w.cell? ⟨b,0,none⟩ = some (.int .i64 n.kind) ∧ w.cell? ⟨b,1,none⟩ = some (.int .i64 n.mode) ∧ w.cell? ⟨b,2,none⟩ = some (.int .i64 n.time) ∧ w.cell? ⟨b,3,none⟩ = some (.int .i64 n.links) ∧ w.cell? ⟨b,4,none⟩ = some (.int .i64 n.size) ∧ w.cell? ⟨b,5,none⟩ = some (.string n.target):=⟨h.cell 0,h.cell 1,h.cell 2,h.cell 3,h.cell 4,h.cell 5⟩
theorem encH_size (n : ND) : (encH n).size ≤ 29:=by
 have z0 : (strOfNums [n.kind]).size ≤ 1:=by rw [strOfNums_size]; simp
 have z1:=shS_size n.mode
 have z2:=shS_size n.links
 have z3 : (fix8 (IntKind.u64.wrap n.time)).size ≤ 8:=Nat.le_of_eq (fix8_size _)
 unfold encH
 simp only [ByteArray.size_append]
 omega
structure EncAt (w wx : World) (n : ND) : Prop where
 blk : Blk wx w.heap.size 34 n.cs
 bl : Below w.heap.size w wx
set_option maxRecDepth 100000 in
set_option maxHeartbeats 400000 in
theorem in_encode (n : ND) (w : World) (hs : n.target.size ≤ 140737488351232) :
 Calls Tryz.prog 63 #[n.val] w fun e w'=>(e = .returned (.tuple #[.string (encS n),.int .i64 0]) ∧ n.right ∨ e = .returned (.tuple #[.string ⟨#[]⟩,.int .i64 1]) ∧ ¬ n.right) ∧ Below w.heap.size w w':=by
 have HC : Hid (∀ W,Calls Tryz.prog 119 #[n.val] W fun e w'=>CheckEnds n e ∧ Below W.heap.size W w'):=Lib.hid fun W=>in_check n W hs
 have HN:=Lib.hid hs
 obtain ⟨kind,mode,time,links,size,target⟩:=n
 have hv : (ND.mk kind mode time links size target).val = .agg #[.int .i64 kind,.int .i64 mode,.int .i64 time,.int .i64 links,.int .i64 size,.string target]:=rfl
 rw [hv] at HC ⊢
 clear hv
 generalize hnd : ND.mk kind mode time links size target = nd at *
 have HND:=Lib.hid hnd
 clear hnd
 have hB:=Blk.new w 34 #[.int .i64 kind,.int .i64 mode,.int .i64 time,.int .i64 links,.int .i64 size,.string target]
 have HBX : Hid (Below w.heap.size w (w.alloc (.cells #[.int .i64 kind,.int .i64 mode,.int .i64 time,.int .i64 links,.int .i64 size,.string target] 34))):=Lib.hid ((Below.refl _ _).alloc (Nat.le_refl _) _)
 go_enter Tryz.func63,Tryz.ntmps63
 go_wp2_with (go_at_call 119; refine (HC.out _).mono ?_; rintro e w1 ⟨hce,hb1⟩; have HB1:=Lib.hid (bl_t HBX.out hb1); have HBK:=Lib.hid (blk_below hB hb1); (rcases hce with ⟨rfl,hr⟩ | ⟨rfl,hr⟩) <;> (have HR:=Lib.hid hr; clear hb1 hr))
 rotate_left
 ·go_ret2
  exact ⟨.inr ⟨rfl,HR.out⟩,HB1.out⟩
 have hr:=HR.out
 rw [← HND.out] at hr
 have hk : 1 ≤ kind ∧ kind ≤ 3:=by
  have h:=hr
  unfold ND.right at h
  simp only at h
  omega
 obtain ⟨hl1,hl2,hm1,hm2,hlast⟩:=hr
 simp only at hl1 hl2 hm1 hm2
 have hsz : kind = 1 → 0 ≤ size ∧ size ≤ 4611686018427387904:=fun h=>by simp only at hlast; omega
 clear hlast
 go_cut [5] (fun t wx=>t = .string (encH nd) ∧ Hid (EncAt w wx nd))
 case first=>
  have e1 : encH nd = strOfNums [kind] ++ shS mode ++ fix8 (IntKind.u64.wrap time) ++ shS links:=by rw [← HND.out,encH]
  have hcv:=fun b=>cv_one b kind
  have hS : Hid (∀ W n,U64 n → Calls Tryz.prog 120 #[.int .u64 n] W fun e w'=>e = .returned (.string (shS n)) ∧ Below W.heap.size W w'):=Lib.hid fun W n h=>pk_short n W h
  have um : U64 mode:=⟨by omega,by omega⟩
  have ul : U64 links:=⟨by omega,by omega⟩
  have hF : Hid (∀ W,Calls Tryz.prog 62 #[.int .u64 (IntKind.u64.wrap time)] W fun e w'=>e = .returned (.string (fix8 (IntKind.u64.wrap time))) ∧ Below W.heap.size W w'):=Lib.hid fun W=>pk_fixed _ W (u64_of time)
  have z0 : (strOfNums [kind]).size ≤ 1:=by rw [strOfNums_size]; simp
  have z1:=shS_size mode
  have z2:=shS_size links
  have z3 : (fix8 (IntKind.u64.wrap time)).size ≤ 8:=Nat.le_of_eq (fix8_size _)
  have w0 : IntKind.u8.wrap kind = kind:=by rw [IntKind.wrap_u8]; omega
  have w1m : IntKind.u64.wrap mode = mode:=by rw [IntKind.wrap_u64]; omega
  have w1l : IntKind.u64.wrap links = links:=by rw [IntKind.wrap_u64]; omega
  generalize htm : IntKind.u64.wrap time = tm at *
  generalize strOfNums [kind] = s0 at *
  generalize fix8 tm = s3 at *
  have HE:=Lib.hid e1
  clear e1
  obtain ⟨c0,c1,c2,c3⟩ : w1.cell? ⟨w.heap.size,0,none⟩ = some (.int .i64 kind) ∧ w1.cell? ⟨w.heap.size,1,none⟩ = some (.int .i64 mode) ∧ w1.cell? ⟨w.heap.size,2,none⟩ = some (.int .i64 time) ∧ w1.cell? ⟨w.heap.size,3,none⟩ = some (.int .i64 links):=⟨HBK.out.cell 0,HBK.out.cell 1,HBK.out.cell 2,HBK.out.cell 3⟩
  refine wp_region_each' (by kernel_rfl) [(fun v _=>v = .pointer (some ⟨w.heap.size,0,none⟩)),(fun v _=>v = .int .i64 kind),(fun v _=>v = .int .u8 kind),(fun v W=>∃ b : Nat,v = .slice (some ⟨b,0,none⟩) 1 1 ∧ W.cell? ⟨b,0,none⟩ = some (.int .u8 kind)),(fun v _=>v = .string s0),(fun v _=>v = .pointer (some ⟨w.heap.size,1,none⟩)),(fun v _=>v = .int .i64 mode),(fun v _=>v = .int .u64 mode),(fun v _=>v = .string (shS mode)),(fun v _=>v = .string (s0 ++ shS mode)),(fun v _=>v = .pointer (some ⟨w.heap.size,2,none⟩)),(fun v _=>v = .int .i64 time),(fun v _=>v = .int .u64 tm),(fun v _=>v = .string s3),(fun v _=>v = .string (s0 ++ shS mode ++ s3)),(fun v _=>v = .pointer (some ⟨w.heap.size,3,none⟩)),(fun v _=>v = .int .i64 links),(fun v _=>v = .int .u64 links),(fun v _=>v = .string (shS links)),(fun v _=>v = .string (s0 ++ shS mode ++ s3 ++ shS links)),(fun v _=>v = .string (s0 ++ shS mode ++ s3 ++ shS links))] (fun u=>⟨#[.agg #[.int .i64 kind,.int .i64 mode,.int .i64 time,.int .i64 links,.int .i64 size,.string target],.pointer (some ⟨w.heap.size,0,none⟩),.string ⟨#[]⟩,.int .i64 0,.int .i64 0,u 20,.agg #[.int .i64 kind,.int .i64 mode,.int .i64 time,.int .i64 links,.int .i64 size,.string target],.int .i64 0,.int .i64 0,.bool false,undef,u 0,u 1,u 2,u 3,u 4,u 5,u 6,u 7,u 8,u 9,u 10,u 11,u 12,u 13,u 14,u 15,u 16,u 17,u 18,u 19,undef,undef,undef,undef,undef,undef,undef,undef,undef,undef,undef,undef,undef,undef,undef,undef,undef,undef],[]⟩) (fun u=>rfl) (by kernel_rfl) [0,1,2,3,4,5,6,7,8,9,10,11,12,13,14,15,16,17,18,19,20] (by kernel_rfl) ?_ ?_ ?_
  ·refine ⟨?_,?_,?_,?_,?_,?_,?_,?_,?_,?_,?_,?_,?_,?_,?_,?_,?_,?_,?_,?_,?_,trivial⟩
   ·refine StepV.of rfl [] (by kernel_rfl) ?_
    intro u wv hI hd
    clear hd
    intro K hK
    go_simp
    exact hK.out _ _ rfl (Below.refl _ _)
   ·refine StepV.of rfl [0] (by kernel_rfl) ?_
    intro u wv hI hd
    have d0 : u 0 = .pointer (some ⟨w.heap.size,0,none⟩):=hd.1
    have q0:=cell_keep hI c0
    clear hd
    simp only [d0]
    intro K hK
    go_simp
    exact hK.out _ _ rfl (Below.refl _ _)
   ·refine StepV.of rfl [1] (by kernel_rfl) ?_
    intro u wv hI hd
    have d1 : u 1 = .int .i64 kind:=hd.1
    clear hd
    simp only [d1]
    intro K hK
    go_simp
    exact hK.out _ _ rfl (Below.refl _ _)
   ·refine StepV.of rfl [2] (by kernel_rfl) ?_
    intro u wv hI hd
    have d2 : u 2 = .int .u8 kind:=hd.1
    clear hd
    simp only [d2]
    intro K hK
    go_simp
    go_wp2_with fail
    refine hK.out _ _ ⟨_,rfl,by first | assumption | simp⟩ ((Below.refl _ _).alloc (Nat.le_refl _) _)
   ·refine StepV.of rfl [3] (by kernel_rfl) ?_
    intro u wv hI hd
    obtain ⟨b3,d3,k3⟩ : ∃ b : Nat,u 3 = .slice (some ⟨b,0,none⟩) 1 1 ∧ wv.cell? ⟨b,0,none⟩ = some (.int .u8 kind):=hd.1
    clear hd
    simp only [d3]
    intro K hK
    go_simp
    exact hK.out _ _ rfl (Below.refl _ _)
   ·refine StepV.of rfl [] (by kernel_rfl) ?_
    intro u wv hI hd
    clear hd
    intro K hK
    go_simp
    exact hK.out _ _ rfl (Below.refl _ _)
   ·refine StepV.of rfl [5] (by kernel_rfl) ?_
    intro u wv hI hd
    have d5 : u 5 = .pointer (some ⟨w.heap.size,1,none⟩):=hd.1
    have q1:=cell_keep hI c1
    clear hd
    simp only [d5]
    intro K hK
    go_simp
    exact hK.out _ _ rfl (Below.refl _ _)
   ·refine StepV.of rfl [6] (by kernel_rfl) ?_
    intro u wv hI hd
    have d6 : u 6 = .int .i64 mode:=hd.1
    clear hd
    simp only [d6]
    intro K hK
    go_simp
    exact hK.out _ _ rfl (Below.refl _ _)
   ·refine StepV.of rfl [7] (by kernel_rfl) ?_
    intro u wv hI hd
    have d7 : u 7 = .int .u64 mode:=hd.1
    clear hd
    simp only [d7]
    intro K hK
    go_simp
    go_at_call 120
    refine (hS.out _ _ (by assumption)).mono ?_
    rintro e w2 ⟨rfl,hb2⟩
    go_wp2_with fail
    exact hK.out _ _ rfl hb2
   ·refine StepV.of rfl [4,8] (by kernel_rfl) ?_
    intro u wv hI hd
    have d4 : u 4 = .string s0:=hd.1
    have d8 : u 8 = .string (shS mode):=hd.2.1
    clear hd
    simp only [d4,d8]
    intro K hK
    go_simp
    go_wp2_with fail
    exact hK.out _ _ rfl (Below.refl _ _)
   ·refine StepV.of rfl [] (by kernel_rfl) ?_
    intro u wv hI hd
    clear hd
    intro K hK
    go_simp
    exact hK.out _ _ rfl (Below.refl _ _)
   ·refine StepV.of rfl [10] (by kernel_rfl) ?_
    intro u wv hI hd
    have d10 : u 10 = .pointer (some ⟨w.heap.size,2,none⟩):=hd.1
    have q2:=cell_keep hI c2
    clear hd
    simp only [d10]
    intro K hK
    go_simp
    exact hK.out _ _ rfl (Below.refl _ _)
   ·refine StepV.of rfl [11] (by kernel_rfl) ?_
    intro u wv hI hd
    have d11 : u 11 = .int .i64 time:=hd.1
    clear hd
    simp only [d11]
    intro K hK
    go_simp
    exact hK.out _ _ rfl (Below.refl _ _)
   ·refine StepV.of rfl [12] (by kernel_rfl) ?_
    intro u wv hI hd
    have d12 : u 12 = .int .u64 tm:=hd.1
    clear hd
    simp only [d12]
    intro K hK
    go_simp
    go_at_call 62
    refine (hF.out _).mono ?_
    rintro e w2 ⟨rfl,hb2⟩
    go_wp2_with fail
    exact hK.out _ _ rfl hb2
   ·refine StepV.of rfl [9,13] (by kernel_rfl) ?_
    intro u wv hI hd
    have d9 : u 9 = .string (s0 ++ shS mode):=hd.1
    have d13 : u 13 = .string s3:=hd.2.1
    clear hd
    simp only [d9,d13]
    intro K hK
    go_simp
    go_wp2_with fail
    exact hK.out _ _ rfl (Below.refl _ _)
   ·refine StepV.of rfl [] (by kernel_rfl) ?_
    intro u wv hI hd
    clear hd
    intro K hK
    go_simp
    exact hK.out _ _ rfl (Below.refl _ _)
   ·refine StepV.of rfl [15] (by kernel_rfl) ?_
    intro u wv hI hd
    have d15 : u 15 = .pointer (some ⟨w.heap.size,3,none⟩):=hd.1
    have q3:=cell_keep hI c3
    clear hd
    simp only [d15]
    intro K hK
    go_simp
    exact hK.out _ _ rfl (Below.refl _ _)
   ·refine StepV.of rfl [16] (by kernel_rfl) ?_
    intro u wv hI hd
    have d16 : u 16 = .int .i64 links:=hd.1
    clear hd
    simp only [d16]
    intro K hK
    go_simp
    exact hK.out _ _ rfl (Below.refl _ _)
   ·refine StepV.of rfl [17] (by kernel_rfl) ?_
    intro u wv hI hd
    have d17 : u 17 = .int .u64 links:=hd.1
    clear hd
    simp only [d17]
    intro K hK
    go_simp
    go_at_call 120
    refine (hS.out _ _ (by assumption)).mono ?_
    rintro e w2 ⟨rfl,hb2⟩
    go_wp2_with fail
    exact hK.out _ _ rfl hb2
   ·refine StepV.of rfl [14,18] (by kernel_rfl) ?_
    intro u wv hI hd
    have d14 : u 14 = .string (s0 ++ shS mode ++ s3):=hd.1
    have d18 : u 18 = .string (shS links):=hd.2.1
    clear hd
    simp only [d14,d18]
    intro K hK
    go_simp
    go_wp2_with fail
    exact hK.out _ _ rfl (Below.refl _ _)
   ·refine StepV.of rfl [19] (by kernel_rfl) ?_
    intro u wv hI hd
    have d19 : u 19 = .string (s0 ++ shS mode ++ s3 ++ shS links):=hd.1
    clear hd
    simp only [d19]
    intro K hK
    go_simp
    exact hK.out _ _ rfl (Below.refl _ _)
  ·refine ⟨fun _ _ _ h _=>h,fun _ _ _ h _=>h,fun _ _ _ h _=>h,fun _ _ _ ⟨b,e,hc⟩ hb=>⟨b,e,cell_keep hb hc⟩,fun _ _ _ h _=>h,fun _ _ _ h _=>h,fun _ _ _ h _=>h,fun _ _ _ h _=>h,fun _ _ _ h _=>h,fun _ _ _ h _=>h,fun _ _ _ h _=>h,fun _ _ _ h _=>h,fun _ _ _ h _=>h,fun _ _ _ h _=>h,fun _ _ _ h _=>h,fun _ _ _ h _=>h,fun _ _ _ h _=>h,fun _ _ _ h _=>h,fun _ _ _ h _=>h,fun _ _ _ h _=>h,fun _ _ _ h _=>h,trivial⟩
  ·intro u wv hI hd
   have d0 : u 0 = .pointer (some ⟨w.heap.size,0,none⟩):=hd.1
   have d1 : u 1 = .int .i64 kind:=hd.2.1
   have d2 : u 2 = .int .u8 kind:=hd.2.2.1
   obtain ⟨b3,d3,k3⟩ : ∃ b : Nat,u 3 = .slice (some ⟨b,0,none⟩) 1 1 ∧ wv.cell? ⟨b,0,none⟩ = some (.int .u8 kind):=hd.2.2.2.1
   have d4 : u 4 = .string s0:=hd.2.2.2.2.1
   have d5 : u 5 = .pointer (some ⟨w.heap.size,1,none⟩):=hd.2.2.2.2.2.1
   have d6 : u 6 = .int .i64 mode:=hd.2.2.2.2.2.2.1
   have d7 : u 7 = .int .u64 mode:=hd.2.2.2.2.2.2.2.1
   have d8 : u 8 = .string (shS mode):=hd.2.2.2.2.2.2.2.2.1
   have d9 : u 9 = .string (s0 ++ shS mode):=hd.2.2.2.2.2.2.2.2.2.1
   have d10 : u 10 = .pointer (some ⟨w.heap.size,2,none⟩):=hd.2.2.2.2.2.2.2.2.2.2.1
   have d11 : u 11 = .int .i64 time:=hd.2.2.2.2.2.2.2.2.2.2.2.1
   have d12 : u 12 = .int .u64 tm:=hd.2.2.2.2.2.2.2.2.2.2.2.2.1
   have d13 : u 13 = .string s3:=hd.2.2.2.2.2.2.2.2.2.2.2.2.2.1
   have d14 : u 14 = .string (s0 ++ shS mode ++ s3):=hd.2.2.2.2.2.2.2.2.2.2.2.2.2.2.1
   have d15 : u 15 = .pointer (some ⟨w.heap.size,3,none⟩):=hd.2.2.2.2.2.2.2.2.2.2.2.2.2.2.2.1
   have d16 : u 16 = .int .i64 links:=hd.2.2.2.2.2.2.2.2.2.2.2.2.2.2.2.2.1
   have d17 : u 17 = .int .u64 links:=hd.2.2.2.2.2.2.2.2.2.2.2.2.2.2.2.2.2.1
   have d18 : u 18 = .string (shS links):=hd.2.2.2.2.2.2.2.2.2.2.2.2.2.2.2.2.2.2.1
   have d19 : u 19 = .string (s0 ++ shS mode ++ s3 ++ shS links):=hd.2.2.2.2.2.2.2.2.2.2.2.2.2.2.2.2.2.2.2.1
   have d20 : u 20 = .string (s0 ++ shS mode ++ s3 ++ shS links):=hd.2.2.2.2.2.2.2.2.2.2.2.2.2.2.2.2.2.2.2.2.1
   clear hd
   simp only [d0,d1,d2,d3,d4,d5,d6,d7,d8,d9,d10,d11,d12,d13,d14,d15,d16,d17,d18,d19,d20]
   go_wp2_with fail
   go_meet
   exact ⟨by rw [HE.out],Lib.hid ⟨by rw [← HND.out]; exact blk_below HBK.out (by assumption),bl_t HB1.out (by assumption)⟩⟩
 case rest=>
  obtain ⟨rfl,HM⟩:=hcut
  have hB2:=HM.out.blk
  rw [← HND.out] at hB2
  obtain ⟨c0,_,_,_,c4,c5⟩:=nd_cells hB2
  have hbl:=Lib.hid HM.out.bl
  have zh : (encH nd).size ≤ 29:=by rw [← HND.out]; exact encH_size _
  have hen : encS nd = if kind = 1 then encH nd ++ shS size else if kind = 3 then encH nd ++ (shS target.size ++ target) else encH nd:=by rw [← HND.out,encS]
  have HEN:=Lib.hid hen
  have hts : target.size ≤ 140737488351232:=by have h:=HN.out; rw [← HND.out] at h; exact h
  have z1:=shS_size size
  have z2:=shS_size target.size
  have hT : Hid (∀ W,Calls Tryz.prog 121 #[.string target] W fun e w'=>e = .returned (.string (shS target.size ++ target)) ∧ Below W.heap.size W w'):=Lib.hid fun W=>pk_text target W hts
  clear HM hB2 hen
  generalize encH nd = hd at *
  rcases (by omega : kind = 1 ∨ kind = 2 ∨ kind = 3) with h | h | h
  ·subst h
   obtain ⟨hs1,hs2⟩:=hsz rfl
   have hS : Hid (∀ W,Calls Tryz.prog 120 #[.int .u64 size] W fun e w'=>e = .returned (.string (shS size)) ∧ Below W.heap.size W w'):=Lib.hid fun W=>pk_short size W ⟨by omega,by omega⟩
   have hwz : IntKind.u64.wrap size = size:=by rw [IntKind.wrap_u64]; omega
   clear hsz
   go_wp2_with (go_at_call 120; refine (hS.out _).mono ?_; rintro e w3 ⟨rfl,hb3⟩; have HB3:=Lib.hid (bl_t hbl.out hb3); clear hb3)
   go_ret2
   exact ⟨.inl ⟨by rw [HEN.out]; rfl,HR.out⟩,HB3.out⟩
  ·subst h
   clear hsz
   go_wp2
   go_ret2
   exact ⟨.inl ⟨by rw [HEN.out]; rfl,HR.out⟩,hbl.out⟩
  ·subst h
   clear hsz
   go_wp2_with (go_at_call 121; refine (hT.out _).mono ?_; rintro e w3 ⟨rfl,hb3⟩; have HB3:=Lib.hid (bl_t hbl.out hb3); clear hb3)
   go_ret2
   exact ⟨.inl ⟨by rw [HEN.out]; rfl,HR.out⟩,HB3.out⟩
end Go.Proofs.YtpboohfofodeeaaGreatDoor
/- inode.Decode (conditions: none). -/
namespace Go.Proofs.YtpboohfofodeeaaGreatDoor
open Go.RowKit Go.Maps
def decRaw (s : ByteArray) : ND × Nat × Int:=
 let q1:=byteS s 0 0
 let q2:=shortS s q1.2.1 q1.2.2
 let q3:=fixedS s q2.2.1 q2.2.2
 let q4:=shortS s q3.2.1 q3.2.2
 if q1.1 = 1 then (⟨q1.1,IntKind.i64.wrap q2.1,IntKind.i64.wrap q3.1,IntKind.i64.wrap q4.1,IntKind.i64.wrap (shortS s q4.2.1 q4.2.2).1,⟨#[]⟩⟩,(shortS s q4.2.1 q4.2.2).2)
 else if q1.1 = 3 then (⟨q1.1,IntKind.i64.wrap q2.1,IntKind.i64.wrap q3.1,IntKind.i64.wrap q4.1,0,(textS s q4.2.1 q4.2.2 100).1⟩,(textS s q4.2.1 q4.2.2 100).2)
 else (⟨q1.1,IntKind.i64.wrap q2.1,IntKind.i64.wrap q3.1,IntKind.i64.wrap q4.1,0,⟨#[]⟩⟩,q4.2)
def isNode (s : ByteArray) : Prop:=((decRaw s).2.2 = 0 ∧ (decRaw s).2.1 = s.size) ∧ (decRaw s).1.right
def zeroND : ND:=⟨0,0,0,0,0,⟨#[]⟩⟩
def DecEnds (s : ByteArray) (e : Ending) : Prop:=isNode s ∧ e = .returned (.tuple #[(decRaw s).1.val,.int .i64 0]) ∨ ¬ isNode s ∧ e = .returned (.tuple #[zeroND.val,.int .i64 21])
theorem byteS_ok {s : ByteArray} {k : Nat} {e : Int} (h : k ≤ s.size) : (byteS s k e).2.1 ≤ s.size ∧ 0 ≤ (byteS s k e).1 ∧ (byteS s k e).1 < 256:=by
 unfold byteS
 have:=bt_range s k
 split
 ·simp [h]
 ·split
  ·simp [h]
  ·simp only; omega
theorem shortS_le {s : ByteArray} {k : Nat} {e : Int} (h : k ≤ s.size) : (shortS s k e).2.1 ≤ s.size:=by
 unfold shortS
 split
 ·exact h
 ·rcases scanS_ends s k 10 0 0 (by omega) (by omega) (by omega) (by simp) with ⟨n,k',h1,_,h2,_,_⟩ | h1 | h1 <;> rw [h1]
  ·exact h2
  ·exact h
  ·exact h
theorem textS_le {s : ByteArray} {k : Nat} {e : Int} {m : Nat} (h : k ≤ s.size) : (textS s k e m).2.1 ≤ s.size ∧ (textS s k e m).1.size ≤ s.size:=by
 unfold textS
 split
 ·exact ⟨h,Nat.zero_le _⟩
 ·rcases scanS_ends s k 10 0 0 (by omega) (by omega) (by omega) (by simp) with ⟨n,k',h1,_,h2,h3,_⟩ | h1 | h1 <;> rw [h1]
  ·simp only [ne_eq,not_true_eq_false,if_false]
   split
   ·exact ⟨h,Nat.zero_le _⟩
   ·split
    ·exact ⟨h,Nat.zero_le _⟩
    ·simp only [ByteArray.size_extract]; omega
  ·exact ⟨h,Nat.zero_le _⟩
  ·exact ⟨h,Nat.zero_le _⟩
structure DecAt (w wx : World) (r : Nat) (s : ByteArray) (k : Nat) (e : Int) : Prop where
 hr0 : w.heap.size < r
 rd : Rd wx r s k e
 z : Blk wx w.heap.size 34 zeroND.cs
 bl : Below w.heap.size w wx
theorem DecAt.keep {w wx wy : World} {r : Nat} {s : ByteArray} {k k' : Nat} {e e' : Int} (h : DecAt w wx r s k e) (hr : Rd wy r s k' e') (hk : Keep (fun i=>i = r) wx wy) : DecAt w wy r s k' e':=
 ⟨h.hr0,hr,h.z.keep hk (by have:=h.hr0; omega),below_keep' h.bl (Nat.le_of_lt h.hr0) hk⟩
theorem DecAt.keepA {w wx wy : World} {o : Obj} {r : Nat} {s : ByteArray} {k k' : Nat} {e e' : Int} (h : DecAt w wx r s k e) (hr : Rd wy r s k' e') (hk : Keep (fun i=>i = r) (wx.alloc o) wy) : DecAt w wy r s k' e':=
 ⟨h.hr0,hr,(h.z.alloc o).keep hk (by have:=h.hr0; omega),below_keep' (h.bl.alloc h.bl.size o) (Nat.le_of_lt h.hr0) hk⟩
/-- Behind the reading: the answer's block, the inode's. -/
structure DecT (w wx : World) (b : Nat) (cs : Array Value) : Prop where
 z : Blk wx w.heap.size 34 zeroND.cs
 n : Blk wx b 34 cs
 bl : Below w.heap.size w wx
theorem DecT.keepD {w wx wy : World} {b nd : Nat} {cs : Array Value} (h : DecT w wx b cs) (hb : Below (wx.drewN nd).heap.size (wx.drewN nd) wy) : DecT w wy b cs:=
 ⟨blk_below (w:=wx.drewN nd) (h.z.drewN nd) hb,blk_below (w:=wx.drewN nd) (h.n.drewN nd) hb,bl_t (below_drewN h.bl nd) hb⟩
theorem dec_yes {s : ByteArray} {n : ND} {k : Nat} {e er : Int} (hq : decRaw s = (n,k,e)) (he : er = 0 ↔ e = 0 ∧ k = s.size) (h0 : er = 0) (hr : n.right) : DecEnds s (.returned (.tuple #[n.val,.int .i64 0])):=
 .inl ⟨by unfold isNode; rw [hq]; exact ⟨he.1 h0,hr⟩,by rw [hq]⟩
theorem dec_no {s : ByteArray} {n : ND} {k : Nat} {e er : Int} (hq : decRaw s = (n,k,e)) (he : er = 0 ↔ e = 0 ∧ k = s.size) (h0 : er ≠ 0 ∨ ¬ n.right) : DecEnds s (.returned (.tuple #[zeroND.val,.int .i64 21])):=
 .inr ⟨by
  unfold isNode; rw [hq]
  rintro ⟨h1,h2⟩
  rcases h0 with h0 | h0
  ·exact h0 (he.2 h1)
  ·exact h0 h2,rfl⟩
theorem z_cells {w : World} {b : Nat} {t : TypeId} (h : Blk w b t zeroND.cs) : w.cell? ⟨b,0,none⟩ = some (.int .i64 0) ∧ w.cell? ⟨b,1,none⟩ = some (.int .i64 0) ∧ w.cell? ⟨b,2,none⟩ = some (.int .i64 0) ∧ w.cell? ⟨b,3,none⟩ = some (.int .i64 0) ∧ w.cell? ⟨b,4,none⟩ = some (.int .i64 0) ∧ w.cell? ⟨b,5,none⟩ = some (.string ⟨#[]⟩):=⟨h.cell 0,h.cell 1,h.cell 2,h.cell 3,h.cell 4,h.cell 5⟩
theorem z_set6 {w : World} {b : Nat} {t : TypeId} (h : Blk w b t zeroND.cs) (n : ND) : Blk ((((((w.setCell ⟨b,0,none⟩ (.int .i64 n.kind)).setCell ⟨b,1,none⟩ (.int .i64 n.mode)).setCell ⟨b,2,none⟩ (.int .i64 n.time)).setCell ⟨b,3,none⟩ (.int .i64 n.links)).setCell ⟨b,4,none⟩ (.int .i64 n.size)).setCell ⟨b,5,none⟩ (.string n.target)) b t n.cs:=by
 have:=(((((h.set_ 0 (.int .i64 n.kind)).set_ 1 (.int .i64 n.mode)).set_ 2 (.int .i64 n.time)).set_ 3 (.int .i64 n.links)).set_ 4 (.int .i64 n.size)).set_ 5 (.string n.target)
 simpa [ND.cs,zeroND] using this
theorem bl_set6 {w W : World} {b : Nat} {x0 x1 x2 x3 x4 x5 : Value} (h : Below b w W) : Below b w ((((((W.setCell ⟨b,0,none⟩ x0).setCell ⟨b,1,none⟩ x1).setCell ⟨b,2,none⟩ x2).setCell ⟨b,3,none⟩ x3).setCell ⟨b,4,none⟩ x4).setCell ⟨b,5,none⟩ x5):=
 (((((h.setCell (p:=⟨b,0,none⟩) (Nat.le_refl _) _).setCell (p:=⟨b,1,none⟩) (Nat.le_refl _) _).setCell (p:=⟨b,2,none⟩) (Nat.le_refl _) _).setCell (p:=⟨b,3,none⟩) (Nat.le_refl _) _).setCell (p:=⟨b,4,none⟩) (Nat.le_refl _) _).setCell (p:=⟨b,5,none⟩) (Nat.le_refl _) _
theorem z_set60 {w : World} {b : Nat} {t : TypeId} (h : Blk w b t zeroND.cs) : Blk ((((((w.setCell ⟨b,0,none⟩ (.int .i64 0)).setCell ⟨b,1,none⟩ (.int .i64 0)).setCell ⟨b,2,none⟩ (.int .i64 0)).setCell ⟨b,3,none⟩ (.int .i64 0)).setCell ⟨b,4,none⟩ (.int .i64 0)).setCell ⟨b,5,none⟩ (.string ⟨#[]⟩)) b t zeroND.cs:=z_set6 h zeroND
theorem bl_set60 {w W : World} {b : Nat} (h : Below b w W) : Below b w ((((((W.setCell ⟨b,0,none⟩ (.int .i64 0)).setCell ⟨b,1,none⟩ (.int .i64 0)).setCell ⟨b,2,none⟩ (.int .i64 0)).setCell ⟨b,3,none⟩ (.int .i64 0)).setCell ⟨b,4,none⟩ (.int .i64 0)).setCell ⟨b,5,none⟩ (.string ⟨#[]⟩)):=bl_set6 h
theorem dec_results {tm : Array Value} {W : World} {b : Nat} {n : ND} {x : Int} (h2 : tm.getD 2 undef = .pointer (some ⟨b,0,none⟩)) (h3 : tm.getD 3 undef = .int .i64 x) (hB : Blk W b 34 n.cs) :
 (results Tryz.f95 tm).run Tryz.prog W = .ok (.tuple #[n.val,.int .i64 x]) W:=by
 obtain ⟨c0,c1,c2,c3,c4,c5⟩:=nd_cells hB
 unfold ND.val ND.cs
 clear hB
 rw [Array.getD_eq_getD_getElem?] at h2 h3
 simp [results,Tryz.results95,go_sem, *]
theorem nd_frozen {w : World} {b : Nat} {t : TypeId} {cs : Array Value} (h : Blk w b t cs) : w.frozen? ⟨b,0,none⟩ = false ∧ w.frozen? ⟨b,1,none⟩ = false ∧ w.frozen? ⟨b,2,none⟩ = false ∧ w.frozen? ⟨b,3,none⟩ = false ∧ w.frozen? ⟨b,4,none⟩ = false ∧ w.frozen? ⟨b,5,none⟩ = false:=⟨h.frozen 0,h.frozen 1,h.frozen 2,h.frozen 3,h.frozen 4,h.frozen 5⟩
set_option maxRecDepth 100000 in
set_option maxHeartbeats 4000000 in
theorem in_decode (s : ByteArray) (w : World) (hs : s.size ≤ 140737488351232) :
 Calls Tryz.prog 95 #[.string s] w fun e w'=>DecEnds s e ∧ Below w.heap.size w w':=by
 have HQ : Hid (decRaw s = decRaw s):=Lib.hid rfl
 conv at HQ=>arg 1; rhs; unfold decRaw
 simp only at HQ
 have h1:=byteS_ok (s:=s) (k:=0) (e:=0) (Nat.zero_le _)
 have HC1 : Hid (∀ (wz : World) (r : Nat),Rd wz r s 0 0 → Calls Tryz.prog 163 #[Pa r] wz (RdCall wz r s (.int .u8 (byteS s 0 0).1) (byteS s 0 0).2.1 (byteS s 0 0).2.2)):=Lib.hid fun wz r h=>rd_byte h (Nat.zero_le _) hs
 generalize byteS s 0 0 = q1 at *
 obtain ⟨kd,k1,e1⟩:=q1
 simp only at h1 HC1 HQ
 have h2:=shortS_le (s:=s) (e:=e1) h1.1
 have HC2 : Hid (∀ (wz : World) (r : Nat),Rd wz r s k1 e1 → Calls Tryz.prog 166 #[Pa r] wz (RdCall wz r s (.int .u64 (shortS s k1 e1).1) (shortS s k1 e1).2.1 (shortS s k1 e1).2.2)):=Lib.hid fun wz r h=>rd_short h h1.1 hs
 generalize shortS s k1 e1 = q2 at *
 obtain ⟨md,k2,e2⟩:=q2
 simp only at h2 HC2 HQ
 have h3:=fixedS_le' (s:=s) (e:=e2) h2
 have HC3 : Hid (∀ (wz : World) (r : Nat),Rd wz r s k2 e2 → Calls Tryz.prog 97 #[Pa r] wz (RdCall wz r s (.int .u64 (fixedS s k2 e2).1) (fixedS s k2 e2).2.1 (fixedS s k2 e2).2.2)):=Lib.hid fun wz r h=>rd_fixed h h2 hs
 generalize fixedS s k2 e2 = q3 at *
 obtain ⟨tm,k3,e3⟩:=q3
 simp only at h3 HC3 HQ
 have h4:=shortS_le (s:=s) (e:=e3) h3
 have HC4 : Hid (∀ (wz : World) (r : Nat),Rd wz r s k3 e3 → Calls Tryz.prog 166 #[Pa r] wz (RdCall wz r s (.int .u64 (shortS s k3 e3).1) (shortS s k3 e3).2.1 (shortS s k3 e3).2.2)):=Lib.hid fun wz r h=>rd_short h h3 hs
 generalize shortS s k3 e3 = q4 at *
 obtain ⟨lk,k4,e4⟩:=q4
 simp only at h4 HC4 HQ
 generalize hmd : IntKind.i64.wrap md = md' at HQ
 generalize htm : IntKind.i64.wrap tm = tm' at HQ
 generalize hlk : IntKind.i64.wrap lk = lk' at HQ
 have hkw : IntKind.i64.wrap kd = kd:=by rw [IntKind.wrap_i64]; omega
 clear h1 h2 h3
 go_enter Tryz.func95,Tryz.ntmps95
 go_wp2_with fail
 refine (pk_read_any' s _).mono ?_
 rintro e w1 ⟨r,rfl,hr0,hr,hb⟩
 have HA : Hid (DecAt w w1 r s 0 0):=Lib.hid ⟨by have h:=hr0; try simp at h; omega,hr,blk_below (Blk.new w 34 zeroND.cs) hb,bl_t ((Below.refl _ _).alloc (Nat.le_refl _) _) hb⟩
 clear hr0 hr hb
 go_wp2_with fail
 refine (HC1.out _ _ HA.out.rd).mono ?_
 rintro e w2 ⟨rfl,hr2,hk⟩
 have HA:=Lib.hid (HA.out.keep hr2 hk)
 clear hr2 hk HC1
 go_wp2_with fail
 refine (HC2.out _ _ HA.out.rd).mono ?_
 rintro e w3 ⟨rfl,hr2,hk⟩
 have HA:=Lib.hid (HA.out.keep hr2 hk)
 clear hr2 hk HC2
 go_wp2_with fail
 refine (HC3.out _ _ HA.out.rd).mono ?_
 rintro e w4 ⟨rfl,hr2,hk⟩
 have HA:=Lib.hid (HA.out.keep hr2 hk)
 clear hr2 hk HC3
 go_wp2_with fail
 refine (HC4.out _ _ HA.out.rd).mono ?_
 rintro e w5 ⟨rfl,hr2,hk⟩
 have HA:=Lib.hid (HA.out.keep hr2 hk)
 clear hr2 hk HC4
 have hlt:=HA.out.rd.lt
 have hz:=HA.out.z.lt
 have hne1 : ¬ r = w5.heap.size:=by omega
 have hne2 : ¬ w5.heap.size = r:=by omega
 have hne3 : ¬ w.heap.size = w5.heap.size:=by omega
 have hne4 : ¬ w5.heap.size = w.heap.size:=by omega
 by_cases hk1 : kd = 1
 ·subst hk1
  have h5:=shortS_le (s:=s) (e:=e4) h4
  have HC5 : Hid (∀ (wz : World) (r : Nat),Rd wz r s k4 e4 → Calls Tryz.prog 166 #[Pa r] wz (RdCall wz r s (.int .u64 (shortS s k4 e4).1) (shortS s k4 e4).2.1 (shortS s k4 e4).2.2)):=Lib.hid fun wz r h=>rd_short h h4 hs
  generalize shortS s k4 e4 = q5 at *
  obtain ⟨sz,k5,e5⟩:=q5
  simp only at h5 HC5 HQ
  generalize hsz : IntKind.i64.wrap sz = sz' at HQ
  have HQ2 : Hid (decRaw s = (⟨1,md',tm',lk',sz',⟨#[]⟩⟩,k5,e5)):=by simpa using HQ
  clear HQ
  have HE : Hid (∀ wz r,Rd wz r s k5 e5 → Calls Tryz.prog 98 #[Pa r] wz fun e w'=>e = .returned (.int .i64 (if e5 = 0 then (if k5 < s.size then 22 else 0) else e5)) ∧ ∃ n,wz.drewN n = w'):=Lib.hid fun wz r h=>rd_end h h5 hs
  have her : Hid ((if e5 = 0 then (if k5 < s.size then (22 : Int) else 0) else e5) = 0 ↔ e5 = 0 ∧ k5 = s.size):=Lib.hid (by split <;> (try split) <;> omega)
  generalize (if e5 = 0 then (if k5 < s.size then (22 : Int) else 0) else e5) = er at HE her
  have HCk : Hid (∀ W,Calls Tryz.prog 119 #[.agg #[.int .i64 1,.int .i64 md',.int .i64 tm',.int .i64 lk',.int .i64 sz',.string ⟨#[]⟩]] W fun e w'=>CheckEnds ⟨1,md',tm',lk',sz',⟨#[]⟩⟩ e ∧ Below W.heap.size W w'):=Lib.hid fun W=>in_check ⟨1,md',tm',lk',sz',⟨#[]⟩⟩ W (Nat.zero_le _)
  go_wp2_with fail
  refine (HC5.out _ _ (HA.out.rd.alloc _)).mono ?_
  rintro e w6 ⟨rfl,hr2,hk⟩
  have HA6:=Lib.hid (HA.out.keepA hr2 hk)
  have HB:=Lib.hid ((Blk.new w5 34 (ND.cs ⟨1,md',tm',lk',0,⟨#[]⟩⟩)).keep hk hne2)
  clear hr2 hk
  obtain ⟨c0,c1,c2,c3,c4,c5⟩:=nd_cells HB.out
  have f4:=HB.out.frozen 4
  simp only at c0 c1 c2 c3 c4 c5
  go_wp2_with fail
  refine (HE.out _ _ (HA6.out.rd.far (p:=⟨w5.heap.size,4,none⟩) hne1 _)).mono ?_
  rintro e w7 ⟨rfl,nd,rfl⟩
  have HB7:=Lib.hid (HB.out.set_ 4 (.int .i64 sz'))
  have HZ7:=Lib.hid (HA6.out.z.far (p:=⟨w5.heap.size,4,none⟩) hne3 (.int .i64 sz'))
  have HL7:=Lib.hid (HA6.out.bl.setCell (p:=⟨w5.heap.size,4,none⟩) (Nat.le_of_lt hz) (.int .i64 sz'))
  generalize w6.setCell ⟨w5.heap.size,4,none⟩ (.int .i64 sz') = w7 at *
  have hcs : (ND.cs ⟨1,md',tm',lk',0,⟨#[]⟩⟩).setIfInBounds 4 (.int .i64 sz') = ND.cs ⟨1,md',tm',lk',sz',⟨#[]⟩⟩:=by simp [ND.cs]
  rw [hcs] at HB7
  have HD:=Lib.hid (DecT.mk HZ7.out HB7.out HL7.out)
  clear c0 c1 c2 c3 c4 c5 f4 hcs
  obtain ⟨c0,c1,c2,c3,c4,c5⟩:=nd_cells HB7.out
  obtain ⟨f0,f1,f2,f3,f4,f5⟩:=nd_frozen HZ7.out
  obtain ⟨a0,a1,a2,a3,a4,a5⟩:=z_cells HZ7.out
  simp only at c0 c1 c2 c3 c4 c5
  clear HZ7 HB7 HL7 HB HA6 HA HC5 HE
  go_wp2_with (go_at_call 119; refine (HCk.out _).mono ?_; rintro e w8 ⟨hce,hb8⟩; have HD8:=Lib.hid (HD.out.keepD hb8); obtain ⟨d0,d1,d2,d3,d4,d5⟩:=nd_cells HD8.out.n; obtain ⟨g0,g1,g2,g3,g4,g5⟩:=nd_frozen HD8.out.z; obtain ⟨b0,b1,b2,b3,b4,b5⟩:=z_cells HD8.out.z; simp only at d0 d1 d2 d3 d4 d5; clear hb8; (rcases hce with ⟨rfl,hr⟩ | ⟨rfl,hr⟩) <;> (have HR:=Lib.hid hr; clear hr))
  ·have hyes:=dec_yes HQ2.out her.out (by assumption) HR.out
   have hres:=z_set6 HD8.out.z ⟨1,md',tm',lk',sz',⟨#[]⟩⟩
   have hbl:=bl_set6 (x0:=.int .i64 1) (x1:=.int .i64 md') (x2:=.int .i64 tm') (x3:=.int .i64 lk') (x4:=.int .i64 sz') (x5:=.string ⟨#[]⟩) HD8.out.bl
   simp only at hres
   refine bodyPost_ret (v:=.tuple #[ND.val ⟨1,md',tm',lk',sz',⟨#[]⟩⟩,.int .i64 0]) ?_ rfl ⟨hyes,hbl⟩
   exact dec_results rfl rfl hres
  ·have hno:=dec_no HQ2.out her.out (.inr HR.out)
   have hres:=z_set60 HD8.out.z
   have hbl:=bl_set60 HD8.out.bl
   refine bodyPost_ret (v:=.tuple #[zeroND.val,.int .i64 21]) ?_ rfl ⟨hno,hbl⟩
   exact dec_results rfl rfl hres
  ·have hno:=dec_no HQ2.out her.out (.inl (by assumption))
   have hres:=z_set60 (HD.out.z.drewN nd)
   have hbl:=bl_set60 (below_drewN HD.out.bl nd)
   refine bodyPost_ret (v:=.tuple #[zeroND.val,.int .i64 21]) ?_ rfl ⟨hno,hbl⟩
   exact dec_results rfl rfl hres
 by_cases hk3 : kd = 3
 ·subst hk3
  have h5:=textS_le (s:=s) (e:=e4) (m:=100) h4
  have HC5 : Hid (∀ (wz : World) (r : Nat),Rd wz r s k4 e4 → Calls Tryz.prog 167 #[Pa r,.int .i64 100] wz (RdCall wz r s (.string (textS s k4 e4 100).1) (textS s k4 e4 100).2.1 (textS s k4 e4 100).2.2)):=Lib.hid fun wz r h=>rd_text h h4 hs 100 (by omega)
  generalize textS s k4 e4 100 = q5 at *
  obtain ⟨tx,k5,e5⟩:=q5
  simp only at h5 HC5 HQ
  have HQ2 : Hid (decRaw s = (⟨3,md',tm',lk',0,tx⟩,k5,e5)):=by simpa using HQ
  clear HQ
  have HE : Hid (∀ wz r,Rd wz r s k5 e5 → Calls Tryz.prog 98 #[Pa r] wz fun e w'=>e = .returned (.int .i64 (if e5 = 0 then (if k5 < s.size then 22 else 0) else e5)) ∧ ∃ n,wz.drewN n = w'):=Lib.hid fun wz r h=>rd_end h h5.1 hs
  have her : Hid ((if e5 = 0 then (if k5 < s.size then (22 : Int) else 0) else e5) = 0 ↔ e5 = 0 ∧ k5 = s.size):=Lib.hid (by have h6:=h5.1; split <;> (try split) <;> omega)
  generalize (if e5 = 0 then (if k5 < s.size then (22 : Int) else 0) else e5) = er at HE her
  have HCk : Hid (∀ W,Calls Tryz.prog 119 #[.agg #[.int .i64 3,.int .i64 md',.int .i64 tm',.int .i64 lk',.int .i64 0,.string tx]] W fun e w'=>CheckEnds ⟨3,md',tm',lk',0,tx⟩ e ∧ Below W.heap.size W w'):=Lib.hid fun W=>in_check ⟨3,md',tm',lk',0,tx⟩ W (Nat.le_trans h5.2 hs)
  go_wp2_with fail
  refine (HC5.out _ _ (HA.out.rd.alloc _)).mono ?_
  rintro e w6 ⟨rfl,hr2,hk⟩
  have HA6:=Lib.hid (HA.out.keepA hr2 hk)
  have HB:=Lib.hid ((Blk.new w5 34 (ND.cs ⟨3,md',tm',lk',0,⟨#[]⟩⟩)).keep hk hne2)
  clear hr2 hk
  obtain ⟨c0,c1,c2,c3,c4,c5⟩:=nd_cells HB.out
  have f5:=HB.out.frozen 5
  simp only at c0 c1 c2 c3 c4 c5
  go_wp2_with fail
  refine (HE.out _ _ (HA6.out.rd.far (p:=⟨w5.heap.size,5,none⟩) hne1 _)).mono ?_
  rintro e w7 ⟨rfl,nd,rfl⟩
  have HB7:=Lib.hid (HB.out.set_ 5 (.string tx))
  have HZ7:=Lib.hid (HA6.out.z.far (p:=⟨w5.heap.size,5,none⟩) hne3 (.string tx))
  have HL7:=Lib.hid (HA6.out.bl.setCell (p:=⟨w5.heap.size,5,none⟩) (Nat.le_of_lt hz) (.string tx))
  generalize w6.setCell ⟨w5.heap.size,5,none⟩ (.string tx) = w7 at *
  have hcs : (ND.cs ⟨3,md',tm',lk',0,⟨#[]⟩⟩).setIfInBounds 5 (.string tx) = ND.cs ⟨3,md',tm',lk',0,tx⟩:=by simp [ND.cs]
  rw [hcs] at HB7
  have HD:=Lib.hid (DecT.mk HZ7.out HB7.out HL7.out)
  clear c0 c1 c2 c3 c4 c5 f5 hcs
  obtain ⟨c0,c1,c2,c3,c4,c5⟩:=nd_cells HB7.out
  obtain ⟨f0,f1,f2,f3,f4,f5⟩:=nd_frozen HZ7.out
  obtain ⟨a0,a1,a2,a3,a4,a5⟩:=z_cells HZ7.out
  simp only at c0 c1 c2 c3 c4 c5
  clear HZ7 HB7 HL7 HB HA6 HA HC5 HE
  go_wp2_with (go_at_call 119; refine (HCk.out _).mono ?_; rintro e w8 ⟨hce,hb8⟩; have HD8:=Lib.hid (HD.out.keepD hb8); obtain ⟨d0,d1,d2,d3,d4,d5⟩:=nd_cells HD8.out.n; obtain ⟨g0,g1,g2,g3,g4,g5⟩:=nd_frozen HD8.out.z; obtain ⟨b0,b1,b2,b3,b4,b5⟩:=z_cells HD8.out.z; simp only at d0 d1 d2 d3 d4 d5; clear hb8; (rcases hce with ⟨rfl,hr⟩ | ⟨rfl,hr⟩) <;> (have HR:=Lib.hid hr; clear hr))
  ·have hyes:=dec_yes HQ2.out her.out (by assumption) HR.out
   have hres:=z_set6 HD8.out.z ⟨3,md',tm',lk',0,tx⟩
   have hbl:=bl_set6 (x0:=.int .i64 3) (x1:=.int .i64 md') (x2:=.int .i64 tm') (x3:=.int .i64 lk') (x4:=.int .i64 0) (x5:=.string tx) HD8.out.bl
   simp only at hres
   refine bodyPost_ret (v:=.tuple #[ND.val ⟨3,md',tm',lk',0,tx⟩,.int .i64 0]) ?_ rfl ⟨hyes,hbl⟩
   exact dec_results rfl rfl hres
  ·have hno:=dec_no HQ2.out her.out (.inr HR.out)
   have hres:=z_set60 HD8.out.z
   have hbl:=bl_set60 HD8.out.bl
   refine bodyPost_ret (v:=.tuple #[zeroND.val,.int .i64 21]) ?_ rfl ⟨hno,hbl⟩
   exact dec_results rfl rfl hres
  ·have hno:=dec_no HQ2.out her.out (.inl (by assumption))
   have hres:=z_set60 (HD.out.z.drewN nd)
   have hbl:=bl_set60 (below_drewN HD.out.bl nd)
   refine bodyPost_ret (v:=.tuple #[zeroND.val,.int .i64 21]) ?_ rfl ⟨hno,hbl⟩
   exact dec_results rfl rfl hres
 ·have b1 : (kd == 1) = false:=by simp [hk1]
  have b3 : (kd == 3) = false:=by simp [hk3]
  have HQ2 : Hid (decRaw s = (⟨kd,md',tm',lk',0,⟨#[]⟩⟩,k4,e4)):=by simpa [hk1,hk3] using HQ
  clear HQ
  have HE : Hid (∀ wz r,Rd wz r s k4 e4 → Calls Tryz.prog 98 #[Pa r] wz fun e w'=>e = .returned (.int .i64 (if e4 = 0 then (if k4 < s.size then 22 else 0) else e4)) ∧ ∃ n,wz.drewN n = w'):=Lib.hid fun wz r h=>rd_end h h4 hs
  have her : Hid ((if e4 = 0 then (if k4 < s.size then (22 : Int) else 0) else e4) = 0 ↔ e4 = 0 ∧ k4 = s.size):=Lib.hid (by split <;> (try split) <;> omega)
  generalize (if e4 = 0 then (if k4 < s.size then (22 : Int) else 0) else e4) = er at HE her
  have HCk : Hid (∀ W,Calls Tryz.prog 119 #[.agg #[.int .i64 kd,.int .i64 md',.int .i64 tm',.int .i64 lk',.int .i64 0,.string ⟨#[]⟩]] W fun e w'=>CheckEnds ⟨kd,md',tm',lk',0,⟨#[]⟩⟩ e ∧ Below W.heap.size W w'):=Lib.hid fun W=>in_check ⟨kd,md',tm',lk',0,⟨#[]⟩⟩ W (Nat.zero_le _)
  go_wp2_with fail
  refine (HE.out _ _ (HA.out.rd.alloc _)).mono ?_
  rintro e w7 ⟨rfl,nd,rfl⟩
  have HB7:=Lib.hid (Blk.new w5 34 (ND.cs ⟨kd,md',tm',lk',0,⟨#[]⟩⟩))
  have HZ7:=Lib.hid (HA.out.z.alloc (.cells (ND.cs ⟨kd,md',tm',lk',0,⟨#[]⟩⟩) 34))
  have HL7:=Lib.hid (HA.out.bl.alloc HA.out.bl.size (.cells (ND.cs ⟨kd,md',tm',lk',0,⟨#[]⟩⟩) 34))
  have hwe : w5.alloc (.cells #[.int .i64 kd,.int .i64 md',.int .i64 tm',.int .i64 lk',.int .i64 0,.string ⟨#[]⟩] 34) = w5.alloc (.cells (ND.cs ⟨kd,md',tm',lk',0,⟨#[]⟩⟩) 34):=rfl
  rw [hwe]
  clear hwe
  generalize w5.alloc (.cells (ND.cs ⟨kd,md',tm',lk',0,⟨#[]⟩⟩) 34) = w7 at *
  have HD:=Lib.hid (DecT.mk HZ7.out HB7.out HL7.out)
  obtain ⟨c0,c1,c2,c3,c4,c5⟩:=nd_cells HB7.out
  obtain ⟨f0,f1,f2,f3,f4,f5⟩:=nd_frozen HZ7.out
  obtain ⟨a0,a1,a2,a3,a4,a5⟩:=z_cells HZ7.out
  simp only at c0 c1 c2 c3 c4 c5
  clear HZ7 HB7 HL7 HA HE
  go_wp2_with (go_at_call 119; refine (HCk.out _).mono ?_; rintro e w8 ⟨hce,hb8⟩; have HD8:=Lib.hid (HD.out.keepD hb8); obtain ⟨d0,d1,d2,d3,d4,d5⟩:=nd_cells HD8.out.n; obtain ⟨g0,g1,g2,g3,g4,g5⟩:=nd_frozen HD8.out.z; obtain ⟨b0,b1,b2,b3,b4,b5⟩:=z_cells HD8.out.z; simp only at d0 d1 d2 d3 d4 d5; clear hb8; (rcases hce with ⟨rfl,hr⟩ | ⟨rfl,hr⟩) <;> (have HR:=Lib.hid hr; clear hr))
  ·have hyes:=dec_yes HQ2.out her.out (by assumption) HR.out
   have hres:=z_set6 HD8.out.z ⟨kd,md',tm',lk',0,⟨#[]⟩⟩
   have hbl:=bl_set6 (x0:=.int .i64 kd) (x1:=.int .i64 md') (x2:=.int .i64 tm') (x3:=.int .i64 lk') (x4:=.int .i64 0) (x5:=.string ⟨#[]⟩) HD8.out.bl
   simp only at hres
   refine bodyPost_ret (v:=.tuple #[ND.val ⟨kd,md',tm',lk',0,⟨#[]⟩⟩,.int .i64 0]) ?_ rfl ⟨hyes,hbl⟩
   exact dec_results rfl rfl hres
  ·have hno:=dec_no HQ2.out her.out (.inr HR.out)
   have hres:=z_set60 HD8.out.z
   have hbl:=bl_set60 HD8.out.bl
   refine bodyPost_ret (v:=.tuple #[zeroND.val,.int .i64 21]) ?_ rfl ⟨hno,hbl⟩
   exact dec_results rfl rfl hres
  ·have hno:=dec_no HQ2.out her.out (.inl (by assumption))
   have hres:=z_set60 (HD.out.z.drewN nd)
   have hbl:=bl_set60 (below_drewN HD.out.bl nd)
   refine bodyPost_ret (v:=.tuple #[zeroND.val,.int .i64 21]) ?_ rfl ⟨hno,hbl⟩
   exact dec_results rfl rfl hres
end Go.Proofs.YtpboohfofodeeaaGreatDoor
/- state: text (conditions: none). -/
namespace Go.Proofs.YtpboohfofodeeaaGreatDoor
open Go.RowKit Go.Maps
open Classical in
noncomputable def textS_ (kind ino : Int) (name : ByteArray) (index : Int) : ByteArray:=if keyRight kind ino name index then keyText kind ino name index else ⟨#[]⟩
set_option maxRecDepth 100000 in
theorem st_text (kind ino : Int) (name : ByteArray) (index : Int) (w : World) (hs : name.size ≤ 140737488351232) :
 Calls Tryz.prog 61 #[keyV kind ino name index] w fun e w'=>e = .returned (.string (textS_ kind ino name index)) ∧ Below w.heap.size w w':=by
 have hM : Hid (∀ W,Calls Tryz.prog 118 #[.agg #[.int .u8 kind,.int .i64 ino,.string name,.int .i64 index]] W fun e w'=>(∃ c : Int,e = .returned (.tuple #[.string (textS_ kind ino name index),.int .i64 c])) ∧ Below W.heap.size W w'):=Lib.hid fun W=>(ky_make ino W kind name index hs).mono fun e w' ⟨h,hb⟩=>⟨by
  unfold textS_
  rcases h with ⟨rfl,hr⟩ | ⟨rfl,hr⟩
  ·exact ⟨0,by rw [if_pos hr]⟩
  ·exact ⟨81,by rw [if_neg hr]⟩,hb⟩
 generalize textS_ kind ino name index = t at hM ⊢
 unfold keyV keyC
 go_enter Tryz.func61,Tryz.ntmps61
 go_wp2_with (go_at_call 118; refine (hM.out _).mono ?_; rintro e w' ⟨⟨c,rfl⟩,hb⟩; have HB:=Lib.hid hb; clear hb)
 go_ret
 exact ⟨rfl,bl_t ((Below.refl _ _).alloc (Nat.le_refl _) _) HB.out⟩
end Go.Proofs.YtpboohfofodeeaaGreatDoor
