/- The reference's disk: Power, Write, Flush (conditions: the disk is one of its package's make). -/
import Derived.Test.YtbgcglojgohjdaaRfb
namespace Go.Proofs.Ytbgcglojgohjdaa
attribute [local go_sem ↓] Go.wp_at_zero Go.wp_at_succ
open Go.RowKit Go.Maps

theorem own_own_ne {w : World} {b1 b2 s1 s2 n1 n2 : Nat} {e1 e2 : TypeId} {v1 v2 : Value} {x1 x2 : List Value} (h1 : w.ownsRow b1 e1 s1 v1 n1 x1) (h2 : w.ownsRow b2 e2 s2 v2 n2 x2) (hne : e1 ≠ e2) (k : Nat) (hk : v1.ownBlock = some k) : v2.ownBlock ≠ some k := by
  rcases h1.2 with ⟨rfl, _⟩ | ⟨g, cap, cur, rfl, _, hh, _⟩
  · simp [Value.ownBlock] at hk
  · have e : g = k := by simpa [Value.ownBlock] using hk
    subst e
    exact own_blk_ne h2 (show Blk w g e1 cur from hh) (fun e => hne e.symm)
section
variable {S : Nat → Prop} {w : World} {a : Nat} {D : DS}

theorem setPower_ok (h : D.OK) (n : Int) (hn : i64r n) : (D.setPower n).OK := by
  unfold DS.setPower
  split
  · exact h
  · exact ⟨⟨h.wf.s1, h.wf.s2, h.wf.fl, h.wf.op⟩, fun hl => by
      have : 0 ≤ n := by simpa using hl
      exact ⟨this, hn.2⟩⟩
theorem rf_power (h : Rfd S w a D) (n : Int) (hn : i64r n) : Calls Try.prog 34 #[Pa a, .int .i64 n] w (RfdCall S a (D.setPower n) (.tuple #[]) w) := by
  obtain ⟨ok, lt, g, cg, A, c, sa, sg, so, hb, ho, hp⟩ := id h
  have c2 : w.cell? ⟨a, 2, none⟩ = some (.int .i64 D.leftR) := hb.cell 2
  have c3 : w.cell? ⟨a, 3, none⟩ = some (.bool D.down) := hb.cell 3
  have f2 := hb.frozen 2
  have hok := setPower_ok ok n hn
  obtain ⟨hn1, hn2⟩ := hn
  clear hb ho hp
  have HH := Lib.hid h; clear h
  cases hd : D.down
  · rw [hd] at c3
    by_cases h0 : 0 ≤ n
    · have he : D.setPower n = { D with lim := true, left := n } := by unfold DS.setPower; rw [if_neg (by simp [hd]), decide_eq_true h0]
      rw [he] at hok ⊢
      have h1 : ¬ n < -1 := by omega
      have hset := HH.out.set2 n { D with lim := true, left := n } ⟨rfl, rfl, rfl, rfl⟩ hok rfl
      have HS := Lib.hid hset; clear hset he hd hok
      generalize D.leftR = L at *
      go_enter Try.func34, Try.ntmps34
      go_wp2
      go_end0
      exact ⟨rfl, S, HS.out, keep_cell sa _ _, fun _ h => .inl h⟩
    · have he : D.setPower n = { D with lim := false, left := n } := by unfold DS.setPower; rw [if_neg (by simp [hd]), decide_eq_false h0]
      rw [he] at hok ⊢
      by_cases h1 : n < -1
      · have hset := HH.out.set2 (-1) { D with lim := false, left := n } ⟨rfl, rfl, rfl, rfl⟩ hok rfl
        have HS := Lib.hid hset; clear hset he hd hok
        generalize D.leftR = L at *
        go_enter Try.func34, Try.ntmps34
        go_wp2
        go_end0
        exact ⟨rfl, S, HS.out, keep_cell sa _ _, fun _ h => .inl h⟩
      · have hset := HH.out.set2 n { D with lim := false, left := n } ⟨rfl, rfl, rfl, rfl⟩ hok (show (-1 : Int) = n by omega)
        have HS := Lib.hid hset; clear hset he hd hok
        generalize D.leftR = L at *
        go_enter Try.func34, Try.ntmps34
        go_wp2
        go_end0
        exact ⟨rfl, S, HS.out, keep_cell sa _ _, fun _ h => .inl h⟩
  · rw [hd] at c3
    have he : D.setPower n = D := by unfold DS.setPower; rw [if_pos hd]
    rw [he]
    go_enter Try.func34, Try.ntmps34
    go_wp2
    go_end0
    exact ⟨rfl, S, HH.out, Grow.refl _ _⟩

theorem power_cases (h : D.OK) (hd : D.down = false) : (D.power.2 ≠ 0 → D.power = ({ D with down := true }, 30) ∧ (D.lim && (D.left == 0)) = true) ∧ (D.power.2 = 0 → D.power = (D, 0) ∧ (D.lim && (D.left == 0)) = false) := by
  unfold DS.power
  cases hq : (D.lim && (D.left == 0)) <;> simp [hd]

set_option maxHeartbeats 2000000 in
theorem rf_write (h : Rfd S w a D) (n : Int) (s : ByteArray) (hs : s.size ≤ maxLen) (hm : D.op.length ≤ 1000000) (hn0 : i64r n) :
    Calls Try.prog 31 #[Pa a, .int .i64 n, .string s] w (RfdCall S a (D.write n s).1 (.int .i64 (D.write n s).2) w) := by
  obtain ⟨i0, hi, hz0, hz1, hz2⟩ := info_parts info_rwrite
  obtain ⟨ok, lt, g, cg, A, c, sa, sg, so, hb, ho, hp⟩ := id h
  have c0 : w.cell? ⟨a, 0, none⟩ = some (.slice (some ⟨g, 0, none⟩) D.size.toNat cg) := hb.cell 0
  have c2 : w.cell? ⟨a, 2, none⟩ = some (.int .i64 D.leftR) := hb.cell 2
  have c3 : w.cell? ⟨a, 3, none⟩ = some (.bool D.down) := hb.cell 3
  have f3 := hb.frozen 3
  have s1 := ok.wf.s1
  have s2 := ok.wf.s2
  have hsz : D.size.toNat ≤ 4096 := by omega
  obtain ⟨hn1, hn2⟩ := hn0
  have HH := Lib.hid h; clear h
  clear hb ho hp
  cases hd : D.down
  · rw [hd] at c3
    obtain ⟨p1, p2⟩ := power_cases ok hd
    have hz := leftR_zero ok
    by_cases hin : n < 0 ∨ D.size ≤ n
    · by_cases hp0 : D.power.2 = 0
      · obtain ⟨e, hq⟩ := p2 hp0
        rw [hq] at hz
        have he : D.write n s = (D, 31) := by unfold DS.write; rw [e, if_neg (by simp), if_pos hin]
        rw [he]
        clear p1 p2 e he hp0 hq hd
        generalize D.leftR = L at *
        rcases hin with h0 | h0
        · clear s1 s2
          go_enter Try.func31, Try.ntmps31
          go_wp2
          go_ret
          exact ⟨rfl, S, HH.out, Grow.refl _ _⟩
        · have h1' : (D.size.toNat : Int) ≤ n := by omega
          have h2' : ¬ n < 0 := by omega
          clear s1 s2 h0
          generalize D.size.toNat = m at *
          go_enter Try.func31, Try.ntmps31
          go_wp2
          go_ret
          exact ⟨rfl, S, HH.out, Grow.refl _ _⟩
      · obtain ⟨e, hq⟩ := p1 hp0
        rw [hq] at hz
        have he : D.write n s = ({ D with down := true }, 30) := by unfold DS.write; rw [e, if_pos (by simp)]
        rw [he]
        clear p1 p2 e he hp0 hq hd
        generalize D.leftR = L at *
        rcases hin with h0 | h0
        · clear s1 s2
          go_enter Try.func31, Try.ntmps31
          go_wp2
          go_ret
          exact ⟨rfl, S, HH.out.set3 true, keep_cell sa _ _, fun _ h => .inl h⟩
        · have h1' : (D.size.toNat : Int) ≤ n := by omega
          have h2' : ¬ n < 0 := by omega
          clear s1 s2 h0
          generalize D.size.toNat = m at *
          go_enter Try.func31, Try.ntmps31
          go_wp2
          go_ret
          exact ⟨rfl, S, HH.out.set3 true, keep_cell sa _ _, fun _ h => .inl h⟩
    · have h1' : n < (D.size.toNat : Int) := by omega
      have h2' : ¬ n < 0 := by omega
      by_cases hsz1 : s.size = 1024
      · have hs2 : ((s.size : Int) != 1024) = false := by simp; omega
        have hs3 : ((s.size : Int) == 1024) = true := by simp; omega
        have hspend := rf_spend HH.out
        have HSP := Lib.hid hspend; clear hspend
        by_cases hp0 : D.power.2 = 0
        · obtain ⟨e, hq⟩ := p2 hp0
          have he : D.write n s = ({ D.spent with op := D.op ++ [(n, s)] }, 0) := by unfold DS.write; rw [e, if_neg (by simp), if_neg hin, if_neg (by omega)]; rfl
          rw [he]
          rw [hq] at HSP
          have hin' : 0 ≤ n ∧ n < D.size := by omega
          clear p1 p2 e he hp0 hd hz s1 s2 hin
          have HQ := Lib.hid hq; clear hq
          have HSZ := Lib.hid hsz1; clear hsz1
          have HIN := Lib.hid hin'; clear hin'
          generalize D.size.toNat = m at *
          generalize D.leftR = L at *
          go_enter Try.func31, Try.ntmps31
          go_wp2_with fail
          refine HSP.out.mono ?_
          rintro e w1 ⟨rfl, hr1, hk1⟩
          rw [if_neg (by simp)] at hr1
          obtain ⟨ok1, lt1, g1, cg1, A1, q1, sa1, sg1, so1, hb1, ho1, hp1⟩ := hr1
          have d1 : w1.cell? ⟨a, 1, none⟩ = some (.slice A1 D.op.length q1) := hb1.cell 1
          have HB1 := Lib.hid hb1; clear hb1
          have HO1 := Lib.hid ho1; clear ho1
          have HP1 : Hid (w1.ownsRow 0 76 2 (.slice A1 D.op.length q1) D.op.length (wrs D.op)) := Lib.hid hp1; clear hp1
          have HK1 := Lib.hid hk1; clear hk1
          have HSO : Hid (∀ k, (Value.slice A1 D.op.length q1).ownBlock = some k → S k) := Lib.hid so1; clear so1
          have HOK := Lib.hid ok1; clear ok1 lt1
          go_wp2_with (first
            | (at_builtin
               refine wpList_append_own_at _ rfl _ _ 66 rfl 0 76 i0 (.agg #[.int .i64 0, .string ⟨#[]⟩]) 2 24 Try.underlying66 hi hz0 hz1 hz2 rfl (by decide) (.slice A1 D.op.length q1) D.op.length (wrs D.op) rfl
                 (HP1.out.alloc _) ⟨w1.heap.size, 0, none⟩ 1 1 [.int .i64 n, .string s] rfl rfl ?c1 ?c2 ?c3 ?c4 ?c5 ?_
               case c1 => exact World.news_of_block (heap_alloc_new w1 _)
               case c2 => simp [Value.oneCell']
               case c3 => unfold maxLen; omega
               case c4 => omega
               case c5 => exact Nat.zero_le _
               intro v2 w2 hown2 hg2 _ hat2
               obtain ⟨A2, q2, rfl⟩ := own_slice hown2
               have hbo := own_blk_ne HP1.out HB1.out (by decide)
               have hoo : some g1 ≠ (Value.slice A1 D.op.length q1).ownBlock := fun e => own_own_ne HO1.out HP1.out (by decide) g1 rfl e.symm
               have hkk : Keep (fun i => some i = (Value.slice A1 D.op.length q1).ownBlock) w1 w2 := ((Keep.refl _ w1).alloc _).grown hg2 (fun k hk => .inl hk.symm)
               have hb2 := HB1.out.keep hkk (fun h => hbo h.symm)
               have ho2 := own_keep HO1.out hkk (fun k hk => by cases hk; exact hoo)
               have hk2 : Keep S w w2 := HK1.out.trans hkk (fun i _ h => HSO.out i h.symm)
               have d12 : w2.cell? ⟨a, 1, none⟩ = some (.slice A1 D.op.length q1) := hb2.cell 1
               have f12 := hb2.frozen 1
               have HB2 := Lib.hid hb2; clear hb2
               have HO2 := Lib.hid ho2; clear ho2
               have HP2 := Lib.hid hown2; clear hown2
               have HK2 := Lib.hid hk2; clear hk2 hkk hg2
               have HA2 := Lib.hid hat2; clear hat2
               clear hbo hoo))
          go_ret
          have hz1 := HK1.out.size
          have ha1 := HB2.out.lt
          refine ⟨by simp, fun k => S k ∨ (Value.slice A2 (D.op.length + 1) q2).ownBlock = some k, ⟨⟨⟨HOK.out.wf.s1, HOK.out.wf.s2, HOK.out.wf.fl, fun x hx => ?_⟩, HOK.out.l0⟩, ?_, g1, cg1, A2, q2, .inl sa, .inl sg1, fun k hk => .inr (by simpa using hk), ?_, ?_, ?_⟩, ?_, ?_⟩
          · rcases List.mem_append.1 hx with hx | hx
            · exact HOK.out.wf.op x hx
            · obtain rfl := List.mem_singleton.1 hx
              exact ⟨HIN.out.1, HIN.out.2, HSZ.out⟩
          · rintro k (hk | hk)
            · have := HH.out.lt k hk
              simp only [World.size_setCell]
              exact Nat.lt_of_lt_of_le this HK2.out.size
            · have := (HP2.out.lt k hk).2
              simpa using this
          · have := HB2.out.set_ 1 (.slice A2 (D.op.length + 1) q2)
            simp only [List.length_append, List.length_singleton]
            exact this
          · have hoa := own_blk_ne HO2.out HB2.out (by decide)
            exact own_keep HO2.out ((Keep.refl (fun i => i = a) _).setCell (p := ⟨a, 1, none⟩) (.inl rfl) _) (fun k hk he => hoa (by rw [hk, he]))
          · have hpa := own_blk_ne HP2.out HB2.out (by decide)
            have := own_keep HP2.out ((Keep.refl (fun i => i = a) _).setCell (p := ⟨a, 1, none⟩) (.inl rfl) (.slice A2 (D.op.length + 1) q2)) (fun k hk he => hpa (by rw [hk, he]))
            simp only [wrs_snoc, List.length_append, List.length_singleton]
            exact this
          · exact HK2.out.trans (keep_cell sa 1 _) (fun i _ h => h)
          · rintro k (hk | hk)
            · exact .inl hk
            · rcases HA2.out with h | h
              · exact .inl (HSO.out k (h.symm.trans hk))
              · rw [h] at hk; cases hk; exact .inr (by simp; omega)
        · obtain ⟨e, hq⟩ := p1 hp0
          have he : D.write n s = ({ D with down := true }, 30) := by unfold DS.write; rw [e, if_pos (by simp)]
          rw [he]
          rw [hq] at HSP
          clear p1 p2 e he hp0 hd hz s1 s2 hin hq hsz1
          generalize D.size.toNat = m at *
          generalize D.leftR = L at *
          go_enter Try.func31, Try.ntmps31
          go_wp2_with fail
          refine HSP.out.mono ?_
          rintro e w1 ⟨rfl, hr1, hk1⟩
          rw [if_pos (by simp)] at hr1
          have HR1 := Lib.hid hr1; clear hr1
          have HK1 := Lib.hid hk1; clear hk1
          go_wp2_with fail
          go_ret
          exact ⟨rfl, S, HR1.out, HK1.out, fun _ h => .inl h⟩
      · have hs2 : ((s.size : Int) != 1024) = true := by simp; omega
        have hs3 : ((s.size : Int) == 1024) = false := by simp; omega
        unfold maxLen at hs
        by_cases hp0 : D.power.2 = 0
        · obtain ⟨e, hq⟩ := p2 hp0
          rw [hq] at hz
          have he : D.write n s = (D, 32) := by unfold DS.write; rw [e, if_neg (by simp), if_neg hin, if_pos hsz1]
          rw [he]
          clear p1 p2 e he hp0 hq hd hin hsz1 s1 s2
          generalize D.leftR = L at *
          generalize D.size.toNat = m at *
          go_enter Try.func31, Try.ntmps31
          go_wp2
          go_ret
          exact ⟨rfl, S, HH.out, Grow.refl _ _⟩
        · obtain ⟨e, hq⟩ := p1 hp0
          rw [hq] at hz
          have he : D.write n s = ({ D with down := true }, 30) := by unfold DS.write; rw [e, if_pos (by simp)]
          rw [he]
          clear p1 p2 e he hp0 hq hd hin hsz1 s1 s2
          generalize D.leftR = L at *
          generalize D.size.toNat = m at *
          go_enter Try.func31, Try.ntmps31
          go_wp2
          go_ret
          exact ⟨rfl, S, HH.out.set3 true, keep_cell sa _ _, fun _ h => .inl h⟩
  · rw [hd] at c3
    have he : D.write n s = (D, 30) := by unfold DS.write DS.power; rw [hd]; rfl
    rw [he]
    go_enter Try.func31, Try.ntmps31
    go_wp2
    go_ret
    exact ⟨rfl, S, HH.out, Grow.refl _ _⟩
end
end Go.Proofs.Ytbgcglojgohjdaa
