/- Copy of a disk (conditions: the disk is one of its package's make). -/
import Derived.Test.YtbgcglojgohjdaaDkf
namespace Go.Proofs.Ytbgcglojgohjdaa
attribute [local go_sem ↓] Go.wp_at_zero Go.wp_at_succ
open Go.RowKit Go.Maps

theorem own_drew {w : World} {base n : Nat} {e : TypeId} {size : Nat} {v : Value} {xs : List Value} (h : w.ownsRow base e size v n xs) : w.drew.ownsRow base e size v n xs := h

/-- A copy: another disk, in new memory. -/
def CopyW (size : Int) (ff fn : Int → Option Value) (nf nn : Nat) (lim : Bool) (left : Int) (down : Bool) (m : Nat) (xs : List Value) (w : World) (e : Ending) (w' : World) : Prop :=
  ∃ (x mf mn : Nat) (ov : Value), e = .returned (Pa x) ∧ Blk w' x 57 (dcells size mf mn ov lim left down) ∧ MapI Try.prog 3 w' mf ff nf ∧ MapI Try.prog 3 w' mn fn nn ∧ w'.ownsRow w.heap.size 61 2 ov m xs ∧
    Below w.heap.size w w' ∧ w.heap.size ≤ x ∧ w.heap.size ≤ mf ∧ w.heap.size ≤ mn ∧ mf ≠ mn

set_option maxHeartbeats 1600000 in
theorem dk_copy {base a mf mn nf nn m : Nat} {w : World} {ff fn : Int → Option Value} {size left : Int} {lim down : Bool} {A : Option Addr} {n c : Nat} {xs : List Value}
    (hblk : Blk w a 57 (dcells size mf mn (.slice A n c) lim left down)) (hf : MapI Try.prog 3 w mf ff nf) (hn : MapI Try.prog 3 w mn fn nn)
    (hrow : w.ownsRow base 61 2 (.slice A n c) m xs) (_ : mf ≠ mn) (h1 : ∀ u ∈ xs, u.oneCell' = true) (hm : m ≤ 1000000) :
    Calls Try.prog 20 #[Pa a] w (CopyW size ff fn nf nn lim left down m xs w) := by
  have c0 : w.cell? ⟨a, 0, none⟩ = some (.int .i64 size) := hblk.cell 0
  have c1 : w.cell? ⟨a, 1, none⟩ = some (.map (some mf)) := hblk.cell 1
  have c2 : w.cell? ⟨a, 2, none⟩ = some (.map (some mn)) := hblk.cell 2
  have c3 : w.cell? ⟨a, 3, none⟩ = some (.slice A n c) := hblk.cell 3
  have c4 : w.cell? ⟨a, 4, none⟩ = some (.bool lim) := hblk.cell 4
  have c5 : w.cell? ⟨a, 5, none⟩ = some (.int .i64 left) := hblk.cell 5
  have c6 : w.cell? ⟨a, 6, none⟩ = some (.bool down) := hblk.cell 6
  have HF := Lib.hid hf; clear hf
  have HN := Lib.hid hn; clear hn
  have HR := Lib.hid hrow; clear hrow
  have HBa := Lib.hid hblk; clear hblk
  have H1 := Lib.hid h1; clear h1
  go_enter Try.func20, Try.ntmps20
  go_wp2_with fail
  have hx : Blk (w.alloc (.cells #[.int .i64 size, .map (some mf), .map (some mn), .slice A n c, .bool lim, .int .i64 left, .bool down] 57)) w.heap.size 57 (dcells size mf mn (.slice A n c) lim left down) := heap_alloc_new w _
  have hw : Below w.heap.size w (w.alloc (.cells #[.int .i64 size, .map (some mf), .map (some mn), .slice A n c, .bool lim, .int .i64 left, .bool down] 57)) := (Below.refl _ _).alloc (Nat.le_refl _) _
  have hax : a ≠ w.heap.size := fun e => by have := HBa.out.lt; omega
  replace HF := Lib.hid (HF.out.keep (Keep.of_below hw (fun _ => False)) (fun h => h)).drew
  replace HN := Lib.hid (HN.out.keep (Keep.of_below hw (fun _ => False)) (fun h => h)).drew
  replace HR := Lib.hid (own_drew (own_keep HR.out (Keep.of_below hw (fun _ => False)) (fun _ _ h => h)))
  replace HBa := Lib.hid (HBa.out.keep (Keep.of_below hw (fun _ => False)) (fun h => h)).drew
  have HBx := Lib.hid hx.drew
  have HBW := Lib.hid hw.drew
  clear c0 c1 c2 c3 c4 c5 c6 hx hw
  generalize w.alloc (.cells #[.int .i64 size, .map (some mf), .map (some mn), .slice A n c, .bool lim, .int .i64 left, .bool down] 57) = w1 at *
  obtain ⟨xb, hxb⟩ : ∃ xb, w.heap.size = xb := ⟨_, rfl⟩
  have hxle : w.heap.size ≤ xb := by omega
  rw [hxb] at HBx hax ⊢
  clear hxb
  have d1 : w1.cell? ⟨a, 1, none⟩ = some (.map (some mf)) := HBa.out.cell 1
  have d2 : w1.cell? ⟨a, 2, none⟩ = some (.map (some mn)) := HBa.out.cell 2
  have d3 : w1.cell? ⟨a, 3, none⟩ = some (.slice A n c) := HBa.out.cell 3
  have e1 : w1.cell? ⟨xb, 1, none⟩ = some (.map (some mf)) := HBx.out.cell 1
  have e2 : w1.cell? ⟨xb, 2, none⟩ = some (.map (some mn)) := HBx.out.cell 2
  have e3 : w1.cell? ⟨xb, 3, none⟩ = some (.slice A n c) := HBx.out.cell 3
  have g1 : w1.frozen? ⟨xb, 1, none⟩ = false := HBx.out.frozen 1
  have g2 : w1.frozen? ⟨xb, 2, none⟩ = false := HBx.out.frozen 2
  have g3 : w1.frozen? ⟨xb, 3, none⟩ = false := HBx.out.frozen 3
  have hset : ∀ (W : World) (i : Nat) (u : Value) (j : Nat), (W.setCell ⟨xb, i, none⟩ u).cell? ⟨a, j, none⟩ = W.cell? ⟨a, j, none⟩ := fun W i u j => World.cell?_setCell_other W _ _ u (fun e => hax (by injection e with e1; exact e1.symm))
  go_region_held3 (fun w' => w'.cell? ⟨a, 1, none⟩ = some (.map (some mf)) ∧ w'.cell? ⟨a, 2, none⟩ = some (.map (some mn)) ∧ w'.cell? ⟨a, 3, none⟩ = some (.slice A n c)) (go_keep)
    (first
      | (go_at_call_of 27 (Value.map (some mf)); refine (mp_clone HF.out).mono ?_; rintro e wf ⟨rfl, hq, hk, hz⟩; replace HF := Lib.hid (HF.out.keep (Keep.of_below hk (fun _ => False)) (fun h => h)); replace HN := Lib.hid (HN.out.keep (Keep.of_below hk (fun _ => False)) (fun h => h)); replace HR := Lib.hid (own_keep HR.out (Keep.of_below hk (fun _ => False)) (fun _ _ h => h)); replace HBa := Lib.hid (HBa.out.keep (Keep.of_below hk (fun _ => False)) (fun h => h)); replace HBx := Lib.hid (HBx.out.keep (Keep.of_below hk (fun _ => False)) (fun h => h)); (try (replace HQF := Lib.hid (HQF.out.keep (Keep.of_below hk (fun _ => False)) (fun h => h)))); (try (replace HQN := Lib.hid (HQN.out.keep (Keep.of_below hk (fun _ => False)) (fun h => h)))); (try (replace HQS := Lib.hid (own_keep HQS.out (Keep.of_below hk (fun _ => False)) (fun _ _ h => h)))); have gf := HBW.out.size; have zf := Lib.hid hz; have szf := hk.size; have HQF := Lib.hid hq; clear hq hz; replace HBW := Lib.hid (Below.trans HBW.out (hk.mono HBW.out.size)); clear d1 d2 d3 e1 e2 e3 g1 g2 g3; have d1 : (wf : World).cell? ⟨a, 1, none⟩ = some (.map (some mf)) := HBa.out.cell 1; have e1 : (wf : World).cell? ⟨xb, 1, none⟩ = some (.map (some mf)) := HBx.out.cell 1; have g1 := HBx.out.frozen 1; have d2 : (wf : World).cell? ⟨a, 2, none⟩ = some (.map (some mn)) := HBa.out.cell 2; have e2 : (wf : World).cell? ⟨xb, 2, none⟩ = some (.map (some mn)) := HBx.out.cell 2; have g2 := HBx.out.frozen 2; have d3 : (wf : World).cell? ⟨a, 3, none⟩ = some (.slice A n c) := HBa.out.cell 3; have e3 : (wf : World).cell? ⟨xb, 3, none⟩ = some (.slice A n c) := HBx.out.cell 3; have g3 := HBx.out.frozen 3; clear hk)
      | (go_at_call_of 27 (Value.map (some mn)); refine (mp_clone HN.out).mono ?_; rintro e wn ⟨rfl, hq, hk, hz⟩; replace HF := Lib.hid (HF.out.keep (Keep.of_below hk (fun _ => False)) (fun h => h)); replace HN := Lib.hid (HN.out.keep (Keep.of_below hk (fun _ => False)) (fun h => h)); replace HR := Lib.hid (own_keep HR.out (Keep.of_below hk (fun _ => False)) (fun _ _ h => h)); replace HBa := Lib.hid (HBa.out.keep (Keep.of_below hk (fun _ => False)) (fun h => h)); replace HBx := Lib.hid (HBx.out.keep (Keep.of_below hk (fun _ => False)) (fun h => h)); (try (replace HQF := Lib.hid (HQF.out.keep (Keep.of_below hk (fun _ => False)) (fun h => h)))); (try (replace HQN := Lib.hid (HQN.out.keep (Keep.of_below hk (fun _ => False)) (fun h => h)))); (try (replace HQS := Lib.hid (own_keep HQS.out (Keep.of_below hk (fun _ => False)) (fun _ _ h => h)))); have gn := HBW.out.size; have zn := Lib.hid hz; have szn := hk.size; have HQN := Lib.hid hq; clear hq hz; replace HBW := Lib.hid (Below.trans HBW.out (hk.mono HBW.out.size)); clear d1 d2 d3 e1 e2 e3 g1 g2 g3; have d1 : (wn : World).cell? ⟨a, 1, none⟩ = some (.map (some mf)) := HBa.out.cell 1; have e1 : (wn : World).cell? ⟨xb, 1, none⟩ = some (.map (some mf)) := HBx.out.cell 1; have g1 := HBx.out.frozen 1; have d2 : (wn : World).cell? ⟨a, 2, none⟩ = some (.map (some mn)) := HBa.out.cell 2; have e2 : (wn : World).cell? ⟨xb, 2, none⟩ = some (.map (some mn)) := HBx.out.cell 2; have g2 := HBx.out.frozen 2; have d3 : (wn : World).cell? ⟨a, 3, none⟩ = some (.slice A n c) := HBa.out.cell 3; have e3 : (wn : World).cell? ⟨xb, 3, none⟩ = some (.slice A n c) := HBx.out.cell 3; have g3 := HBx.out.frozen 3; clear hk)
      | (go_at_call 29; refine (sl_clone HR.out H1.out hm).mono ?_; rintro e ws ⟨vs, rfl, hq, hk⟩; obtain ⟨As, qs, rfl⟩ := own_slice hq; replace HF := Lib.hid (HF.out.keep (Keep.of_below hk (fun _ => False)) (fun h => h)); replace HN := Lib.hid (HN.out.keep (Keep.of_below hk (fun _ => False)) (fun h => h)); replace HR := Lib.hid (own_keep HR.out (Keep.of_below hk (fun _ => False)) (fun _ _ h => h)); replace HBa := Lib.hid (HBa.out.keep (Keep.of_below hk (fun _ => False)) (fun h => h)); replace HBx := Lib.hid (HBx.out.keep (Keep.of_below hk (fun _ => False)) (fun h => h)); (try (replace HQF := Lib.hid (HQF.out.keep (Keep.of_below hk (fun _ => False)) (fun h => h)))); (try (replace HQN := Lib.hid (HQN.out.keep (Keep.of_below hk (fun _ => False)) (fun h => h)))); (try (replace HQS := Lib.hid (own_keep HQS.out (Keep.of_below hk (fun _ => False)) (fun _ _ h => h)))); have szs := hk.size; have HQS := Lib.hid (own_base (base' := w.heap.size) hq (fun k hk' => Nat.le_trans HBW.out.size (hq.lt k hk').1)); clear hq; replace HBW := Lib.hid (Below.trans HBW.out (hk.mono HBW.out.size)); clear d1 d2 d3 e1 e2 e3 g1 g2 g3; have d1 : (ws : World).cell? ⟨a, 1, none⟩ = some (.map (some mf)) := HBa.out.cell 1; have e1 : (ws : World).cell? ⟨xb, 1, none⟩ = some (.map (some mf)) := HBx.out.cell 1; have g1 := HBx.out.frozen 1; have d2 : (ws : World).cell? ⟨a, 2, none⟩ = some (.map (some mn)) := HBa.out.cell 2; have e2 : (ws : World).cell? ⟨xb, 2, none⟩ = some (.map (some mn)) := HBx.out.cell 2; have g2 := HBx.out.frozen 2; have d3 : (ws : World).cell? ⟨a, 3, none⟩ = some (.slice A n c) := HBa.out.cell 3; have e3 : (ws : World).cell? ⟨xb, 3, none⟩ = some (.slice A n c) := HBx.out.cell 3; have g3 := HBx.out.frozen 3; clear hk))
  all_goals
    go_wp2
    go_ret
    have hff := HQF.out.blk_ne HBx.out
    have hfn := HQN.out.blk_ne HBx.out
    have hfs := own_blk_ne HQS.out HBx.out (by decide)
    have zf' := zf.out
    have zn' := zn.out
    simp only [show ∀ W : World, W.drew.heap.size = W.heap.size from fun _ => rfl] at zf' zn' szf szn szs gf gn
    refine ⟨xb, _, _, _, rfl, ((HBx.out.set_ 1 _).set_ 2 _).set_ 3 _, ((HQF.out.setCell (p := ⟨xb, 1, none⟩) hff _).setCell (p := ⟨xb, 2, none⟩) hff _).setCell (p := ⟨xb, 3, none⟩) hff _, ((HQN.out.setCell (p := ⟨xb, 1, none⟩) hfn _).setCell (p := ⟨xb, 2, none⟩) hfn _).setCell (p := ⟨xb, 3, none⟩) hfn _, ?_, ((HBW.out.setCell hxle _).setCell hxle _).setCell hxle _, hxle, ?_, ?_, ?_⟩
    · refine own_keep HQS.out ((((Keep.refl (fun i => i = xb) _).setCell (p := ⟨xb, 1, none⟩) (.inl rfl) _).setCell (p := ⟨xb, 2, none⟩) (.inl rfl) _).setCell (p := ⟨xb, 3, none⟩) (.inl rfl) _) (fun k hk he => hfs (by rw [hk, he]))
    · show w.heap.size ≤ _; omega
    · show w.heap.size ≤ _; omega
    · show _ ≠ _; omega
end Go.Proofs.Ytbgcglojgohjdaa
