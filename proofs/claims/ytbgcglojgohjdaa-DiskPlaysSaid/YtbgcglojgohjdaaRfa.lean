/- The reference's disk in memory, told by the same state as the program's: New, Read, Power, spend (conditions: none). -/
import Derived.Test.YtbgcglojgohjdaaCls
import Derived.Deep.RegionHeld3
import Derived.Laws.OwnMore
import Derived.Outline
namespace Go.Proofs.Ytbgcglojgohjdaa
attribute [local go_sem ↓] Go.wp_at_zero Go.wp_at_succ
open Go.RowKit Go.Maps

/-- The sectors as a list. -/
def oldL (fl : Int → Option ByteArray) (n : Nat) : List Value := (List.range n).map fun i : Nat => .string ((fl (i : Int)).getD zb)
theorem oldL_length (fl : Int → Option ByteArray) (n : Nat) : (oldL fl n).length = n := by simp [oldL]
theorem oldL_snoc (fl : Int → Option ByteArray) (n : Nat) : oldL fl (n + 1) = oldL fl n ++ [.string ((fl (n : Int)).getD zb)] := by unfold oldL; rw [List.range_succ, List.map_append]; rfl
theorem oldL_at (fl : Int → Option ByteArray) (n i : Nat) (h : i < n) : (oldL fl n)[i]? = some (.string ((fl (i : Int)).getD zb)) := by
  unfold oldL; rw [List.getElem?_map, List.getElem?_range h]; rfl
theorem oldL_set (fl : Int → Option ByteArray) (n i : Nat) (s : ByteArray) (h : i < n) : (oldL fl n).set i (.string s) = oldL (upd fl (i : Int) s) n := by
  apply List.ext_getElem?
  intro j
  rw [List.getElem?_set]
  by_cases hj : j < n
  · by_cases e : i = j
    · subst e
      rw [if_pos rfl, if_pos (by rw [oldL_length]; exact h), oldL_at _ _ _ h]
      simp [upd]
    · rw [if_neg e, oldL_at _ _ _ hj, oldL_at _ _ _ hj]
      have : ((j : Int) = (i : Int)) ↔ False := ⟨fun h => e (by omega), False.elim⟩
      simp [upd, this]
  · rw [List.getElem?_eq_none (l := oldL (upd fl (i : Int) s) n) (by rw [oldL_length]; omega)]
    split
    · rw [if_neg (by rw [oldL_length]; omega)]
    · rw [List.getElem?_eq_none (by rw [oldL_length]; omega)]

/-- The power that is left, as the reference has it. -/
def DS.leftR (D : DS) : Int := if D.lim then D.left else -1
structure DS.OK (D : DS) : Prop where
  wf : D.WF
  l0 : D.lim = true → 0 ≤ D.left ∧ D.left ≤ 9223372036854775807
def rcells (vo vp : Value) (left : Int) (gone : Bool) : Array Value := #[vo, vp, .int .i64 left, .bool gone]
/-- The reference's disk at block a, whose memory lies in S, is in state D. -/
structure Rfd (S : Nat → Prop) (w : World) (a : Nat) (D : DS) : Prop where
  ok : D.OK
  lt : ∀ k, S k → k < w.heap.size
  mem : ∃ (g cg : Nat) (A : Option Addr) (c : Nat), S a ∧ S g ∧ (∀ k, (Value.slice A D.op.length c).ownBlock = some k → S k) ∧
    Blk w a 68 (rcells (.slice (some ⟨g, 0, none⟩) D.size.toNat cg) (.slice A D.op.length c) D.leftR D.down) ∧
    w.ownsRow 0 9 1 (.slice (some ⟨g, 0, none⟩) D.size.toNat cg) D.size.toNat (oldL D.fl D.size.toNat) ∧ w.ownsRow 0 76 2 (.slice A D.op.length c) D.op.length (wrs D.op)

section
variable {S T : Nat → Prop} {w w' : World} {a : Nat} {D : DS}
theorem Rfd.keep (h : Rfd S w a D) (hk : Keep T w w') (ha : ∀ k, S k → ¬ T k) : Rfd S w' a D := by
  obtain ⟨ok, lt, g, cg, A, c, sa, sg, so, hb, ho, hp⟩ := h
  exact ⟨ok, fun k hs => Nat.lt_of_lt_of_le (lt k hs) hk.size, g, cg, A, c, sa, sg, so, hb.keep hk (ha _ sa), own_keep ho hk (fun k hk' => by cases hk'; exact ha _ sg), own_keep hp hk (fun k hk' => ha _ (so k hk'))⟩
theorem Rfd.below (h : Rfd S w a D) (hk : Below w.heap.size w w') : Rfd S w' a D := h.keep (Keep.of_below hk (fun _ => False)) (fun _ _ h => h)
theorem Rfd.drew (h : Rfd S w a D) : Rfd S w.drew a D := h.below (Below.drew (Below.refl _ _))
end
def RfdCall (S : Nat → Prop) (a : Nat) (D' : DS) (r : Value) (w : World) (e : Ending) (w' : World) : Prop := e = .returned r ∧ ∃ S', Rfd S' w' a D' ∧ Grow S S' w w'
def RfdNew (D' : DS) (w : World) (e : Ending) (w' : World) : Prop := ∃ x, e = .returned (Pa x) ∧ ∃ S', Rfd S' w' x D' ∧ Below w.heap.size w w' ∧ ∀ k, S' k → w.heap.size ≤ k

theorem info_str : (Try.prog.info? 9).map (fun i => (i.zero, i.size, i.bytes)) = some (some (.string ⟨#[]⟩), 1, 16) := by kernel_rfl
theorem info_rwrite : (Try.prog.info? 76).map (fun i => (i.zero, i.size, i.bytes)) = some (some (.agg #[.int .i64 0, .string ⟨#[]⟩]), 2, 24) := by kernel_rfl

theorem rf_zeros (w : World) : Calls Try.prog 30 #[] w fun e w' => e = .returned (.string zb) ∧ Below w.heap.size w w' := by
  have hmk := mk_zeros
  have hcv := conv_zeros w.heap.size (w.alloc (.cells (madeCells #[.int .u8 0] 1024) 5)) (heap_alloc_new w _)
  go_enter Try.func30, Try.ntmps30
  go_wp2
  go_ret
  exact ⟨rfl, (Below.refl _ _).alloc (Nat.le_refl _) _⟩

set_option maxHeartbeats 1000000 in
theorem rf_new (n : Nat) (w : World) (h1 : 1 ≤ n) (h2 : n ≤ 4096) :
    Calls Try.prog 21 #[.int .i64 n] w fun e w' => ∃ x, e = .returned (.tuple #[Pa x, .int .i64 0]) ∧ ∃ S', Rfd S' w' x (DS.new n) ∧ Below w.heap.size w w' ∧ ∀ k, S' k → w.heap.size ≤ k := by
  obtain ⟨i0, hi, hz0, hz1, hz2⟩ := info_parts info_str
  go_enter Try.func21, Try.ntmps21
  go_wp2_with fail
  refine (rf_zeros _).mono ?_
  rintro e w1 ⟨rfl, hb1⟩
  have hx1 : Blk w1 w.heap.size 68 (rcells (.slice none 0 0) (.slice none 0 0) (-1) false) := (Blk.new w _ _).keep (Keep.of_below hb1 (fun _ => False)) (fun h => h)
  have hw1 : Below w.heap.size w w1 := Below.trans ((Below.refl _ _).alloc (Nat.le_refl _) _) (hb1.mono (by simp))
  have HX := Lib.hid hx1; clear hx1
  have HB := Lib.hid hw1; clear hw1 hb1
  obtain ⟨x, hx⟩ : ∃ x, w.heap.size = x := ⟨_, rfl⟩
  have hxs : w.heap.size ≤ x := by omega
  have hxr : x ≤ w.heap.size := by omega
  rw [hx] at HX ⊢
  clear hx
  go_wp2_with fail
  go_loopw [6] (fun v6 wr => ∃ (k : Nat) (vo : Value), k ≤ n ∧ v6 = .int .i64 k ∧ Blk wr x 68 (rcells vo (.slice none 0 0) (-1) false) ∧ wr.ownsRow (x + 1) 9 1 vo k (oldL (fun _ => none) k) ∧ Below w.heap.size w wr) (fun v6 _ => n - (intOf v6).toNat)
  case atStart => exact ⟨0, _, Nat.zero_le _, rfl, HX.out, World.ownsRow_nil _ _ _ _, HB.out⟩
  case round =>
    clear HX HB
    rename_i wr
    obtain ⟨k, vo, hk, rfl, hx, ho, hb⟩ := hrel
    obtain ⟨Ao, co, rfl⟩ := own_slice ho
    have HX := Lib.hid hx; clear hx
    have HO := Lib.hid ho; clear ho
    have HB := Lib.hid hb; clear hb
    have hxw := HX.out.lt
    by_cases hlt : k < n
    · have c0 : wr.cell? ⟨x, 0, none⟩ = some (.slice Ao k co) := HX.out.cell 0
      go_wp2_with (first
        | (at_builtin
           refine wpList_append_own _ rfl _ _ 30 rfl (x + 1) 9 i0 (.string ⟨#[]⟩) 1 16 Try.underlying30 hi hz0 hz1 hz2 rfl (by decide) _ k _ rfl
             (HO.out.alloc _) ⟨wr.heap.size, 0, none⟩ 1 1 [.string zb] rfl rfl ?c1 ?c2 ?c3 ?c4 ?c5 ?_
           case c1 => exact World.news_of_block (heap_alloc_new wr _)
           case c2 => simp [Value.oneCell']
           case c3 => unfold maxLen; omega
           case c4 => omega
           case c5 => simp; omega
           intro v2 w2 hown2 hg2 _
           obtain ⟨A2, q2, rfl⟩ := own_slice hown2
           have hk2 : Keep (fun i => x + 1 ≤ i) wr w2 := ((Keep.refl _ wr).alloc _).grown hg2 (fun k hk => .inl (HO.out.lt k hk).1)
           have hx2 := HX.out.keep hk2 (by omega)
           have hb2 : Below w.heap.size w w2 := HB.out.trans (hk2.to_below HB.out.size (fun i hi => by omega))
           have f2 : w2.frozen? ⟨x, 0, none⟩ = false := hx2.frozen 0
           have d2 : w2.cell? ⟨x, 0, none⟩ = some (.slice Ao k co) := hx2.cell 0
           have HX2 := Lib.hid hx2; clear hx2
           have HB2 := Lib.hid hb2; clear hb2 hg2 hk2
           have HO2 := Lib.hid hown2; clear hown2))
      go_roundw
      case rel =>
        refine ⟨k + 1, _, by omega, by go_num, HX2.out.set_ 0 _, ?_, HB2.out.setCell hxs _⟩
        rw [oldL_snoc]
        exact own_keep HO2.out ((Keep.refl (fun i => i = x) _).setCell (p := ⟨x, 0, none⟩) (.inl rfl) _) (fun k hk he => by have := (HO2.out.lt k hk).1; omega)
      case measure => simp [intOf]; omega
    · obtain rfl : n = k := by omega
      obtain ⟨g, cg, hv, hg1, hg2⟩ := HO.out.form (by omega)
      obtain ⟨rfl, rfl⟩ : Ao = some ⟨g, 0, none⟩ ∧ co = cg := by injection hv with h1 _ h3; exact ⟨h1, h3⟩
      clear hv
      go_wp2_with fail
      go_ret2
      refine ⟨x, rfl, fun i => i = x ∨ i = g, ⟨⟨⟨by simp [DS.new]; omega, by simp [DS.new]; omega, fun _ _ h => (by cases h), fun _ h => (by cases h)⟩, fun h => (by cases h)⟩, ?_, g, co, none, 0, .inl rfl, .inr rfl, fun k hk => by simp [Value.ownBlock] at hk, HX.out, own_base HO.out (fun _ _ => Nat.zero_le _), World.ownsRow_nil _ _ _ _⟩, HB.out, ?_⟩
      · rintro k (rfl | rfl)
        · exact hxw
        · exact (HO.out.lt _ rfl).2
      · rintro k (rfl | rfl)
        · exact hxs
        · have := (HO.out.lt _ rfl).1; omega
theorem rf_new_bad (n : Int) (w : World) (h : n < 1 ∨ 4096 < n) :
    Calls Try.prog 21 #[.int .i64 n] w fun e w' => e = .returned (.tuple #[.pointer none, .int .i64 1]) ∧ w = w' := by
  rcases h with h | h
  · go_enter Try.func21, Try.ntmps21
    go_wp2
    go_ret2
    exact ⟨rfl, rfl⟩
  · go_enter Try.func21, Try.ntmps21
    go_wp2
    go_ret2
    exact ⟨rfl, rfl⟩
end Go.Proofs.Ytbgcglojgohjdaa
