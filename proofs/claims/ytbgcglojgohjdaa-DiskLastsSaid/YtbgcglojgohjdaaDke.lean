/- slices.Clone at a disk's writes; Flush (conditions: the disk is one of its package's make). -/
import Derived.Test.YtbgcglojgohjdaaDkd
import Derived.Deep.RegionHeld3
import Derived.Deep.DrawnRows
namespace Go.Proofs.Ytbgcglojgohjdaa
attribute [local go_sem ↓] Go.wp_at_zero Go.wp_at_succ
open Go.RowKit Go.Maps

theorem sl_clone {base n : Nat} {w : World} {v : Value} {xs : List Value} (h : w.ownsRow base 61 2 v n xs) (h1 : ∀ u ∈ xs, u.oneCell' = true) (hn : n ≤ 1000000) :
    Calls Try.prog 29 #[v] w fun e w' => ∃ v', e = .returned v' ∧ w'.ownsRow w.heap.size 61 2 v' n xs ∧ Below w.heap.size w w' := by
  obtain ⟨i0, hi, hz0, hz1, hz2⟩ := info_parts info_write
  have hl := h.1
  rcases h.2 with ⟨rfl, rfl⟩ | ⟨g, cap, cur, rfl, _, hh, hnc, hcm, hcs, htk⟩
  · have hx : xs = [] := List.eq_nil_of_length_eq_zero (by omega)
    subst hx
    have hq := fun (W : World) a n c => Lib.run_eql_slice_nil (P := Try.prog) W 55 61 a n c 0 0 Try.underlying55
    go_enter Try.func29, Try.ntmps29
    go_wp2
    go_ret
    exact ⟨_, rfl, ⟨by simp, .inl ⟨rfl, rfl⟩⟩, Below.refl _ _⟩
  · have hq := fun (W : World) a n c => Lib.run_eql_slice_nil (P := Try.prog) W 55 61 a n c 0 0 Try.underlying55
    have hcell := h.cells (g := g) rfl
    have hg : g < w.heap.size := lt_of_heap hh
    have HC := Lib.hid hcell; clear hcell
    have HL := Lib.hid hl; clear hl
    clear htk hcs hh h
    go_enter Try.func29, Try.ntmps29
    go_wp2_with (first
      | (at_builtin
         go_must (refine wpList_append_own_at _ rfl _ _ 55 rfl w.heap.size 61 i0 (.agg #[.int .i64 0, .string ⟨#[]⟩]) 2 24 Try.underlying55 hi hz0 hz1 hz2 rfl (by decide) _ 0 [] rfl (World.ownsRow_made w #[] 0 (Nat.le_refl _) (Nat.zero_le _) rfl) ⟨g, 0, none⟩ n cap xs rfl HL.out ?c1 h1 ?c3 ?c4 ?c5 ?_)
         case c1 => go_must (exact fun j u hu => ((Below.refl _ w).alloc (Nat.le_refl _) _).cell (World.block_lt_of_cell? w _ (HC.out j u hu)) |>.trans (HC.out j u hu))
         case c3 => go_must (unfold maxLen; omega)
         case c4 => go_must (omega)
         case c5 => go_must (simp)
         intro v2 w2 hown2 hg2 _ hat2
         go_must (have hb2 : Below w.heap.size w w2 := ((Below.refl _ w).alloc (Nat.le_refl _) _).grown hg2 (by simp) (fun k hk => by cases hk; exact Nat.le_refl _))
         have HO2 := Lib.hid hown2; clear hown2
         have HB2 := Lib.hid hb2; clear hb2 hg2 hat2))
    go_ret
    refine ⟨_, rfl, ?_, HB2.out⟩
    have := HO2.out
    rwa [Nat.zero_add, List.nil_append] at this

/-- A disk's power has gone, or goes: a flush says so. -/
theorem dk_flush_err {a : Nat} {w : World} (e0 : Int) (he : (e0 == 0) = false) (w1 : World) (hp : Calls Try.prog 26 #[Pa a] w fun e w' => e = .returned (.int .i64 e0) ∧ w1 = w') :
    Calls Try.prog 19 #[Pa a] w fun e w' => e = .returned (.int .i64 e0) ∧ w1 = w' := by
  have he2 : (e0 != 0) = true := by simpa using he
  have H := Lib.hid hp; clear hp
  go_enter Try.func19, Try.ntmps19
  go_wp2_with (go_at_call 26; refine H.out.mono ?_; rintro e w' ⟨rfl, rfl⟩)
  go_ret
  exact ⟨rfl, rfl⟩

/-- A flush that is done. -/
def FlushedW (a mf mn : Nat) (size left : Int) (lim : Bool) (ff fn : Int → Option Value) (w : World) (e : Ending) (w' : World) : Prop :=
  e = .returned (.int .i64 0) ∧ Blk w' a 57 (dcells size mf mn (.slice none 0 0) lim (wrap64 (left - 1)) false) ∧ (∃ nf', MapI Try.prog 3 w' mf (fun k => (fn k).or (ff k)) nf') ∧
    MapI Try.prog 3 w' mn (fun _ => none) 0 ∧ Keep (fun i => i = a ∨ i = mf ∨ i = mn) w w'

set_option maxHeartbeats 1000000 in
theorem dk_flush_ok {a mf mn nf nn : Nat} {w : World} {ff fn : Int → Option Value} {size left : Int} {lim : Bool} {ov : Value} (hov : ∃ A n c, ov = .slice A n c) (hp : Calls Try.prog 26 #[Pa a] w fun e w' => e = .returned (.int .i64 0) ∧ w = w')
    (hblk : Blk w a 57 (dcells size mf mn ov lim left false)) (hf : MapI Try.prog 3 w mf ff nf) (hn : MapI Try.prog 3 w mn fn nn) (hne : mf ≠ mn) (hroom : nf + nn < maxLen) :
    Calls Try.prog 19 #[Pa a] w (FlushedW a mf mn size left lim ff fn w) := by
  obtain ⟨A, n, c, rfl⟩ := hov
  have H := Lib.hid hp; clear hp
  have hmne := hn.blk_ne hblk
  have hmfe := hf.blk_ne hblk
  have c5 : w.cell? ⟨a, 5, none⟩ = some (.int .i64 left) := hblk.cell 5
  have f5 := hblk.frozen 5
  have hb1 := hblk.set_ 5 (.int .i64 (wrap64 (left - 1)))
  have hn1 := hn.setCell (p := ⟨a, 5, none⟩) hmne (.int .i64 (wrap64 (left - 1)))
  have hf1 := hf.setCell (p := ⟨a, 5, none⟩) hmfe (.int .i64 (wrap64 (left - 1)))
  have c1 : w.cell? ⟨a, 1, none⟩ = some (.map (some mf)) := hblk.cell 1
  have c2 : w.cell? ⟨a, 2, none⟩ = some (.map (some mn)) := hblk.cell 2
  have HB1 := Lib.hid hb1; clear hb1
  have HN1 := Lib.hid hn1; clear hn1
  have HF1 := Lib.hid hf1; clear hf1
  have HX := Lib.hid hblk; clear hblk hf hn
  go_enter Try.func19, Try.ntmps19
  go_wp2_with (go_at_call 26; refine H.out.mono ?_; rintro e w' ⟨rfl, rfl⟩)
  have c1' : Hid (Keep (fun i => i = a) w (w.setCell ⟨a, 5, none⟩ (.int .i64 (wrap64 (left - 1))))) := (Keep.refl (fun i => i = a) w).setCell (p := ⟨a, 5, none⟩) (.inl rfl) _
  clear c1 c2 HX f5 c5 H
  generalize w.setCell ⟨a, 5, none⟩ (.int .i64 (wrap64 (left - 1))) = w1 at *
  have c1 : w1.cell? ⟨a, 1, none⟩ = some (.map (some mf)) := HB1.out.cell 1
  have c2 : w1.cell? ⟨a, 2, none⟩ = some (.map (some mn)) := HB1.out.cell 2
  go_region_held3 (fun w' => w'.cell? ⟨a, 1, none⟩ = some (.map (some mf)) ∧ w'.cell? ⟨a, 2, none⟩ = some (.map (some mn))) (go_keep)
    (first | (go_at_call 28; refine (mp_copy HF1.out.drew HN1.out.drew hne hroom).mono ?_; rintro e w2 ⟨rfl, hq, hk⟩; have HQ := Lib.hid hq; clear hq; have hb2 := HB1.out.drew.keep hk (fun h => hmfe h.symm); have d1 : w2.cell? ⟨a, 1, none⟩ = some (.map (some mf)) := hb2.cell 1; have d2 : w2.cell? ⟨a, 2, none⟩ = some (.map (some mn)) := hb2.cell 2; have HB2 := Lib.hid hb2; clear hb2; have HK := Lib.hid hk; clear hk))
  have hn2 : MapI Try.prog 3 w2 mn fn nn := HN1.out.drew.keep HK.out (fun h => hne h.symm)
  have hk2 : Keep (fun i => i = a ∨ i = mf ∨ i = mn) w w2 := (c1'.out.drew.mono (fun i _ h => .inl h)).trans HK.out (fun i _ h => .inr (.inl h))
  have HN2 := Lib.hid hn2; clear hn2
  have HK2 := Lib.hid hk2; clear hk2 HK
  go_wp2_with (first
    | (refine wpList_mapI_clear _ rfl _ 54 rfl 9 Try.underlying54 rfl HN2.out ?_
       intro w3 hn3 hk3 _
       have hb3 := HB2.out.keep hk3 (fun h => hmne h.symm)
       obtain ⟨nf', hq⟩ := HQ.out
       have hq3 := hq.keep hk3 hne
       have hk4 : Keep (fun i => i = a ∨ i = mf ∨ i = mn) w w3 := HK2.out.trans hk3 (fun i _ h => .inr (.inr h))
       have e3 : w3.cell? ⟨a, 3, none⟩ = some (.slice A n c) := hb3.cell 3
       have g3 := hb3.frozen 3
       have HB3 := Lib.hid hb3; clear hb3
       have HN3 := Lib.hid hn3; clear hn3 hk3 hq
       have HQ3 := Lib.hid hq3; clear hq3
       have HK4 := Lib.hid hk4; clear hk4))
  go_ret
  exact ⟨rfl, HB3.out.set_ 3 _, ⟨_, HQ3.out.setCell hmfe _⟩, HN3.out.setCell hmne _, HK4.out.setCell (.inl (.inl rfl)) _⟩
end Go.Proofs.Ytbgcglojgohjdaa
