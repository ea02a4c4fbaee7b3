/- The reference's disk: Read, spend, Power, Write (conditions: the disk is one of its package's make). -/
import Derived.Test.YtbgcglojgohjdaaRfa
namespace Go.Proofs.Ytbgcglojgohjdaa
attribute [local go_sem ↓] Go.wp_at_zero Go.wp_at_succ
open Go.RowKit Go.Maps

theorem opMap_take (op : List (Int × ByteArray)) (k : Nat) (h : k < op.length) : opMap (op.take (k + 1)) = upd (opMap (op.take k)) (op[k]).1 (op[k]).2 := by
  rw [List.take_succ_eq_append_getElem h]
  exact opMap_snoc _ _ _
section
variable {S : Nat → Prop} {w : World} {a : Nat} {D : DS}

set_option maxHeartbeats 1000000 in
theorem rf_read (h : Rfd S w a D) (n : Int) (hop : D.op.length ≤ 1000000) :
    Calls Try.prog 33 #[Pa a, .int .i64 n] w fun e w' => e = .returned (.tuple #[.string (D.read n).1, .int .i64 (D.read n).2]) ∧ w = w' := by
  obtain ⟨ok, lt, g, cg, A, c, sa, sg, so, hb, ho, hp⟩ := h
  have c0 : w.cell? ⟨a, 0, none⟩ = some (.slice (some ⟨g, 0, none⟩) D.size.toNat cg) := hb.cell 0
  have c1 : w.cell? ⟨a, 1, none⟩ = some (.slice A D.op.length c) := hb.cell 1
  have c3 : w.cell? ⟨a, 3, none⟩ = some (.bool D.down) := hb.cell 3
  have s1 := ok.wf.s1
  have s2 := ok.wf.s2
  have hsz : D.size.toNat ≤ 4096 := by omega
  unfold DS.read
  cases hd : D.down
  · rw [hd] at c3
    rw [if_neg (by simp)]
    by_cases h0 : n < 0
    · rw [if_pos (.inl h0)]
      clear hb ho hp
      go_enter Try.func33, Try.ntmps33
      go_wp2
      go_ret2
      exact ⟨rfl, rfl⟩
    · by_cases h1 : D.size ≤ n
      · rw [if_pos (.inr h1)]
        have h1' : (D.size.toNat : Int) ≤ n := by omega
        clear hb ho hp h1
        generalize D.size.toNat = m at *
        go_enter Try.func33, Try.ntmps33
        go_wp2
        go_ret2
        exact ⟨rfl, rfl⟩
      · rw [if_neg (by omega)]
        obtain ⟨j, rfl⟩ : ∃ j : Nat, n = (j : Int) := ⟨n.toNat, by omega⟩
        have hj : j < D.size.toNat := by omega
        have hc0 : w.cell? ⟨g, j, none⟩ = some (.string ((D.fl (j : Int)).getD zb)) := by rw [ho.cellAt j (by omega), oldL_at _ _ _ hj]
        have HP := Lib.hid hp; clear hp hb ho
        generalize D.size.toNat = m at *
        generalize hfl : (D.fl (j : Int)).getD zb = s0 at *
        have HFL := Lib.hid hfl; clear hfl
        clear h1 s1 s2 hd
        go_enter Try.func33, Try.ntmps33
        go_wp2_with fail
        go_loop [6, 7] (fun v6 v7 => ∃ (k : Nat) (s : ByteArray), k ≤ D.op.length ∧ v7 = .int .i64 k ∧ v6 = .string s ∧ ((opMap (D.op.take k) (j : Int)).or (D.fl (j : Int))).getD zb = s) (fun _ v7 => D.op.length - (intOf v7).toNat)
        case atStart => exact ⟨0, s0, Nat.zero_le _, rfl, rfl, HFL.out⟩
        case round =>
          obtain ⟨k, s, hk, rfl, rfl, hs⟩ := hrel
          have HS := Lib.hid hs; clear hs
          by_cases hlt : k < D.op.length
          · obtain ⟨gp, cap, hv, _⟩ := HP.out.form (by omega)
            obtain ⟨rfl, rfl⟩ : A = some ⟨gp, 0, none⟩ ∧ c = cap := by injection hv with h1 _ h3; exact ⟨h1, h3⟩
            have q0 := HP.out.cellAt (k * 2) (by omega)
            have q1 := HP.out.cellAt (k * 2 + 1) (by omega)
            obtain ⟨hn, hdt⟩ := wrs_at D.op k hlt
            rw [hn] at q0
            rw [hdt] at q1
            clear hn hdt hv
            have htk := opMap_take D.op k hlt
            generalize (D.op[k]).1 = x at *
            generalize (D.op[k]).2 = t at *
            have HTK := Lib.hid htk; clear htk
            by_cases hx : x = (j : Int)
            · have hx' : (x == (j : Int)) = true := by simpa using hx
              have HX := Lib.hid hx; clear hx
              go_wp2_with fail
              go_round
              case rel => exact ⟨k + 1, t, by omega, by go_num, rfl, by rw [HTK.out, HX.out]; simp [upd]⟩
              case measure => simp [intOf]; omega
            · have hx' : (x == (j : Int)) = false := by simpa using hx
              have HX := Lib.hid hx; clear hx
              go_wp2_with fail
              go_round
              case rel => exact ⟨k + 1, s, by omega, by go_num, rfl, by
                rw [HTK.out, ← HS.out]
                have : ((j : Int) = x) ↔ False := ⟨fun h => HX.out h.symm, False.elim⟩
                simp [upd, this]⟩
              case measure => simp [intOf]; omega
          · have hko : D.op.take k = D.op := List.take_of_length_le (by omega)
            have hs2 := HS.out
            rw [hko, Option.getD_or] at hs2
            have HS2 := Lib.hid hs2; clear hs2 hko
            go_wp2_with fail
            go_ret2
            exact ⟨by rw [HS2.out]; rfl, rfl⟩
  · rw [hd] at c3
    rw [if_pos rfl]
    clear hb ho hp
    go_enter Try.func33, Try.ntmps33
    go_wp2
    go_ret2
    exact ⟨rfl, rfl⟩

/-- What 'spend' makes of the state. -/
def DS.spent (D : DS) : DS := { D with left := wrap64 (D.left - 1) }
theorem leftR_zero (h : D.OK) : (D.leftR == 0) = (D.lim && (D.left == 0)) := by
  unfold DS.leftR
  cases hl : D.lim <;> simp
theorem DS.OK.down (h : D.OK) : DS.OK { D with down := true } := ⟨⟨h.wf.s1, h.wf.s2, h.wf.fl, h.wf.op⟩, h.l0⟩
theorem DS.OK.spent (h : D.OK) (h0 : (D.lim && (D.left == 0)) = false) : D.spent.OK := ⟨⟨h.wf.s1, h.wf.s2, h.wf.fl, h.wf.op⟩, fun hl => by
  have hl' : D.lim = true := hl
  have := h.l0 hl'
  rw [hl'] at h0
  have h1 : D.left ≠ 0 := by simpa using h0
  show 0 ≤ wrap64 (D.left - 1) ∧ wrap64 (D.left - 1) ≤ _
  unfold wrap64; omega⟩
theorem leftR_spent (h : D.OK) (h0 : (D.lim && (D.left == 0)) = false) : D.spent.leftR = if 0 < D.leftR then D.leftR - 1 else D.leftR := by
  unfold DS.leftR DS.spent
  cases hl : D.lim
  · simp
  · have := h.l0 hl
    rw [hl] at h0
    have h1 : D.left ≠ 0 := by simpa using h0
    simp only [if_true]
    rw [if_pos (by omega)]
    unfold wrap64; omega

/-- A store into a field of the reference's disk. -/
theorem Rfd.set3 (h : Rfd S w a D) (b : Bool) : Rfd S (w.setCell ⟨a, 3, none⟩ (.bool b)) a { D with down := b } := by
  obtain ⟨ok, lt, g, cg, A, c, sa, sg, so, hb, ho, hp⟩ := h
  have hk : Keep (fun i => i = a) w (w.setCell ⟨a, 3, none⟩ (.bool b)) := (Keep.refl (fun i => i = a) w).setCell (p := ⟨a, 3, none⟩) (.inl rfl) _
  have h1 := own_blk_ne ho hb (by decide)
  have h2 := own_blk_ne hp hb (by decide)
  exact ⟨⟨⟨ok.wf.s1, ok.wf.s2, ok.wf.fl, ok.wf.op⟩, ok.l0⟩, fun k hs => Nat.lt_of_lt_of_le (lt k hs) hk.size, g, cg, A, c, sa, sg, so, hb.set_ 3 (.bool b), own_keep ho hk (fun k hk' e => h1 (e ▸ hk')), own_keep hp hk (fun k hk' e => h2 (e ▸ hk'))⟩
theorem Rfd.set2 (h : Rfd S w a D) (l : Int) (D' : DS) (hD : D'.size = D.size ∧ D'.fl = D.fl ∧ D'.op = D.op ∧ D'.down = D.down) (ok' : D'.OK) (hl : D'.leftR = l) : Rfd S (w.setCell ⟨a, 2, none⟩ (.int .i64 l)) a D' := by
  obtain ⟨ok, lt, g, cg, A, c, sa, sg, so, hb, ho, hp⟩ := h
  have hk : Keep (fun i => i = a) w (w.setCell ⟨a, 2, none⟩ (.int .i64 l)) := (Keep.refl (fun i => i = a) w).setCell (p := ⟨a, 2, none⟩) (.inl rfl) _
  have h1 := own_blk_ne ho hb (by decide)
  have h2 := own_blk_ne hp hb (by decide)
  obtain ⟨e1, e2, e3, e4⟩ := hD
  refine ⟨ok', fun k hs => Nat.lt_of_lt_of_le (lt k hs) hk.size, g, cg, A, c, sa, sg, ?_⟩
  rw [e1, e2, e3, e4, hl]
  exact ⟨so, hb.set_ 2 (.int .i64 l), own_keep ho hk (fun k hk' e => h1 (e ▸ hk')), own_keep hp hk (fun k hk' e => h2 (e ▸ hk'))⟩
theorem keep_cell (sa : S a) (i : Nat) (u : Value) : Keep S w (w.setCell ⟨a, i, none⟩ u) := (Keep.refl S w).setCell (p := ⟨a, i, none⟩) (.inl sa) _
theorem Rfd.in_ (h : Rfd S w a D) : S a := let ⟨_, _, _, _, _, _, sa, _⟩ := h; sa

theorem rf_spend (h : Rfd S w a D) : Calls Try.prog 38 #[Pa a] w fun e w' =>
    e = .returned (.bool (!(D.lim && (D.left == 0)))) ∧ Rfd S w' a (if (D.lim && (D.left == 0)) = true then { D with down := true } else D.spent) ∧ Keep S w w' := by
  obtain ⟨ok, lt, g, cg, A, c, sa, sg, so, hb, ho, hp⟩ := id h
  have c2 : w.cell? ⟨a, 2, none⟩ = some (.int .i64 D.leftR) := hb.cell 2
  have c3 : w.cell? ⟨a, 3, none⟩ = some (.bool D.down) := hb.cell 3
  have f2 := hb.frozen 2
  have f3 := hb.frozen 3
  have hz := leftR_zero ok
  have HH := Lib.hid h; clear h
  have hlo : -1 ≤ D.leftR ∧ D.leftR ≤ 9223372036854775807 := by
    unfold DS.leftR
    split
    · have := ok.l0 (by assumption); omega
    · omega
  obtain ⟨hlo1, hlo2⟩ := hlo
  cases h0 : (D.lim && (D.left == 0))
  · rw [h0] at hz
    have hs := leftR_spent ok h0
    have hok := ok.spent h0
    rw [if_neg (by simp)]
    by_cases hp0 : 0 < D.leftR
    · rw [if_pos hp0] at hs
      have HS := Lib.hid hs; clear hs
      clear h0 hb ho hp
      generalize hLL : D.leftR = L at *
      have HLL := Lib.hid hLL; clear hLL
      go_enter Try.func38, Try.ntmps38
      go_wp2
      go_ret
      exact ⟨rfl, HH.out.set2 _ D.spent ⟨rfl, rfl, rfl, rfl⟩ hok HS.out, keep_cell sa _ _⟩
    · rw [if_neg hp0] at hs
      have hr : Rfd S w a D.spent := by
        obtain ⟨ok, lt, g, cg, A, c, sa, sg, so, hb, ho, hp⟩ := HH.out
        exact ⟨hok, lt, g, cg, A, c, sa, sg, so, by rw [hs]; exact hb, ho, hp⟩
      have HR := Lib.hid hr; clear hr hs
      clear h0 hb ho hp
      generalize hLL : D.leftR = L at *
      have HLL := Lib.hid hLL; clear hLL
      go_enter Try.func38, Try.ntmps38
      go_wp2
      go_ret
      exact ⟨rfl, HR.out, Keep.refl _ _⟩
  · rw [h0] at hz
    rw [if_pos rfl]
    clear h0 hb ho hp
    generalize hLL : D.leftR = L at *
    have HLL := Lib.hid hLL; clear hLL
    go_enter Try.func38, Try.ntmps38
    go_wp2
    go_ret
    exact ⟨rfl, HH.out.set3 true, keep_cell sa _ _⟩
end
end Go.Proofs.Ytbgcglojgohjdaa
