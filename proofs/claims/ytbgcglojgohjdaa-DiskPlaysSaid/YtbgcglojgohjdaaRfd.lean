/- The reference's disk: Flush (conditions: the disk is one of its package's make). -/
import Derived.Test.YtbgcglojgohjdaaRfc
import Derived.StillTailTactics
namespace Go.Proofs.Ytbgcglojgohjdaa
attribute [local go_sem ↓] Go.wp_at_zero Go.wp_at_succ
open Go.RowKit Go.Maps

/-- What is flushed behind k of the open writes. -/
def flK (D : DS) (k : Nat) : Int → Option ByteArray := fun j => (opMap (D.op.take k) j).or (D.fl j)
theorem flK_zero (D : DS) : flK D 0 = D.fl := by funext j; simp [flK, opMap]
theorem flK_succ (D : DS) (k : Nat) (h : k < D.op.length) : flK D (k + 1) = upd (flK D k) (D.op[k]).1 (D.op[k]).2 := by
  funext j
  unfold flK
  rw [opMap_take D.op k h]
  by_cases e : j = (D.op[k]).1 <;> simp [upd, e]
theorem flK_ok (D : DS) (h : D.WF) (k : Nat) : ∀ j s, flK D k j = some s → 0 ≤ j ∧ j < D.size ∧ s.size = 1024 := by
  intro j s hs
  unfold flK at hs
  cases ho : opMap (D.op.take k) j with
  | some t =>
    rw [ho] at hs
    cases hs
    exact h.op _ (List.mem_of_mem_take (opMap_some ho))
  | none => rw [ho] at hs; exact h.fl j s (by simpa using hs)

/-- The cells of the reference's disk, laid open. -/
structure RCells (S : Nat → Prop) (w : World) (a g cg : Nat) (A : Option Addr) (c : Nat) (D : DS) : Prop where
  ok : D.OK
  lt : ∀ k, S k → k < w.heap.size
  sa : S a
  sg : S g
  so : ∀ k, (Value.slice A D.op.length c).ownBlock = some k → S k
  b : Blk w a 68 (rcells (.slice (some ⟨g, 0, none⟩) D.size.toNat cg) (.slice A D.op.length c) D.leftR D.down)
  o : w.ownsRow 0 9 1 (.slice (some ⟨g, 0, none⟩) D.size.toNat cg) D.size.toNat (oldL D.fl D.size.toNat)
  p : w.ownsRow 0 76 2 (.slice A D.op.length c) D.op.length (wrs D.op)
theorem RCells.rfd {S : Nat → Prop} {w : World} {a g cg : Nat} {A : Option Addr} {c : Nat} {D : DS} (h : RCells S w a g cg A c D) : Rfd S w a D :=
  ⟨h.ok, h.lt, g, cg, A, c, h.sa, h.sg, h.so, h.b, h.o, h.p⟩
theorem Rfd.cells {S : Nat → Prop} {w : World} {a : Nat} {D : DS} (h : Rfd S w a D) : ∃ g cg A c, RCells S w a g cg A c D := by
  obtain ⟨ok, lt, g, cg, A, c, sa, sg, so, hb, ho, hp⟩ := h
  exact ⟨g, cg, A, c, ok, lt, sa, sg, so, hb, ho, hp⟩
/-- A sector is stored. -/
theorem RCells.setOld {S : Nat → Prop} {w : World} {a g cg : Nat} {A : Option Addr} {c : Nat} {D : DS} (h : RCells S w a g cg A c D) (m : Nat) (hm : m < D.size.toNat) (s : ByteArray) (hs : s.size = 1024) :
    RCells S (w.setCell ⟨g, m, none⟩ (.string s)) a g cg A c { D with fl := upd D.fl (m : Int) s } := by
  have hk : Keep (fun i => i = g) w (w.setCell ⟨g, m, none⟩ (.string s)) := (Keep.refl (fun i => i = g) w).setCell (p := ⟨g, m, none⟩) (.inl rfl) _
  have h1 := own_blk_ne h.o h.b (by decide)
  have h2 := own_own_ne h.o h.p (by decide) g rfl
  refine ⟨⟨⟨h.ok.wf.s1, h.ok.wf.s2, fun k t ht => ?_, h.ok.wf.op⟩, h.ok.l0⟩, fun k hs => Nat.lt_of_lt_of_le (h.lt k hs) hk.size, h.sa, h.sg, h.so, h.b.keep hk (fun e => h1 (by rw [e]; rfl)), ?_, own_keep h.p hk (fun k hk' e => h2 (by rw [hk', e]))⟩
  · have ht' : upd D.fl (m : Int) s k = some t := ht
    unfold upd at ht'
    split at ht'
    · rename_i e
      cases ht'
      exact ⟨by omega, by show k < D.size; omega, hs⟩
    · exact h.ok.wf.fl k t ht'
  · have := h.o.stored m (.string s)
    rw [oldL_set _ _ _ _ hm] at this
    exact this.1

section
variable {S : Nat → Prop} {w : World} {a : Nat} {D : DS}
set_option maxHeartbeats 2000000 in
theorem rf_flush (h : Rfd S w a D) (hm : D.op.length ≤ 1000000) : Calls Try.prog 32 #[Pa a] w (RfdCall S a D.flush.1 (.int .i64 D.flush.2) w) := by
  have sa := h.in_
  have ok := h.ok
  have hspend := rf_spend h
  have HSP := Lib.hid hspend; clear hspend
  obtain ⟨g0, cg0, A0, c0', hc0⟩ := h.cells
  have c3 : w.cell? ⟨a, 3, none⟩ = some (.bool D.down) := hc0.b.cell 3
  have HH := Lib.hid h; clear h hc0
  cases hd : D.down
  · rw [hd] at c3
    obtain ⟨p1, p2⟩ := power_cases ok hd
    by_cases hp0 : D.power.2 = 0
    · obtain ⟨e, hq⟩ := p2 hp0
      have he : D.flush = ({ D.spent with op := [], fl := fun k => (opMap D.op k).or (D.fl k) }, 0) := by unfold DS.flush; rw [e, if_neg (by simp)]; rfl
      rw [he]
      rw [hq] at HSP
      have hwf := ok.wf
      have HWF := Lib.hid hwf; clear hwf
      clear p1 p2 e he hp0 hd
      have HQ := Lib.hid hq; clear hq
      go_enter Try.func32, Try.ntmps32
      go_wp2_with fail
      refine HSP.out.mono ?_
      rintro e w1 ⟨rfl, hr1, hk1⟩
      rw [if_neg (by simp)] at hr1
      have hr1' : Rfd S w1 a { D.spent with fl := flK D 0 } := by rw [flK_zero]; exact hr1
      have HR1 := Lib.hid hr1'; clear hr1 hr1'
      have HK1 := Lib.hid hk1; clear hk1
      go_wp2_with fail
      go_loopw [3] (fun v3 wr => ∃ k : Nat, k ≤ D.op.length ∧ v3 = .int .i64 k ∧ Rfd S wr a { D.spent with fl := flK D k } ∧ Keep S w wr) (fun v3 _ => D.op.length - (intOf v3).toNat)
      case atStart => exact ⟨0, Nat.zero_le _, rfl, HR1.out, HK1.out⟩
      case round =>
        clear HR1 HK1
        rename_i wr
        obtain ⟨k, hk, rfl, hr, hkp⟩ := hrel
        have HKP := Lib.hid hkp; clear hkp
        obtain ⟨g, cg, A, c, hc⟩ := hr.cells
        clear hr
        have d0 : wr.cell? ⟨a, 0, none⟩ = some (.slice (some ⟨g, 0, none⟩) D.size.toNat cg) := hc.b.cell 0
        have d1 : wr.cell? ⟨a, 1, none⟩ = some (.slice A D.op.length c) := hc.b.cell 1
        have e1 := hc.b.frozen 1
        have hsz : D.size.toNat ≤ 4096 := by have := HWF.out.s2; omega
        by_cases hlt : k < D.op.length
        · obtain ⟨gp, cap, hv, _⟩ := hc.p.form (by show 0 < D.op.length; omega)
          obtain ⟨rfl, rfl⟩ : A = some ⟨gp, 0, none⟩ ∧ c = cap := by injection hv with h1 _ h3; exact ⟨h1, h3⟩
          have q0 := hc.p.cellAt (k * 2) (by show k * 2 < D.op.length * 2; omega)
          have q1 := hc.p.cellAt (k * 2 + 1) (by show k * 2 + 1 < D.op.length * 2; omega)
          obtain ⟨hn, hdt⟩ := wrs_at D.op k hlt
          have hin := HWF.out.op _ (List.getElem_mem hlt)
          have hsu := flK_succ D k hlt
          rw [show (({ D.spent with fl := flK D k } : DS).op) = D.op from rfl] at q0 q1
          rw [hn] at q0
          rw [hdt] at q1
          clear hn hdt hv
          generalize (D.op[k]).2 = s at *
          obtain ⟨x, hx⟩ : ∃ x : Nat, (D.op[k]).1 = (x : Int) := ⟨(D.op[k]).1.toNat, by omega⟩
          rw [hx] at q0 hin hsu
          clear hx
          have hxl : x < D.size.toNat := by omega
          have qs := hc.o.cellAt x (by show x < D.size.toNat * 1; omega)
          rw [show (({ D.spent with fl := flK D k } : DS).fl) = flK D k from rfl, show (({ D.spent with fl := flK D k } : DS).size) = D.size from rfl, oldL_at _ _ _ hxl] at qs
          have fs := hc.o.frozenAt x
          have hset := hc.setOld x hxl s hin.2.2
          have hset' : RCells S (wr.setCell ⟨g, x, none⟩ (.string s)) a g cg (some ⟨gp, 0, none⟩) c { D.spent with fl := flK D (k + 1) } := by rw [hsu]; exact hset
          have hkk : Keep S w (wr.setCell ⟨g, x, none⟩ (.string s)) := HKP.out.setCell (p := ⟨g, x, none⟩) (.inl hc.sg) _
          have HSET := Lib.hid hset'; clear hset hset' hsu
          have HKK := Lib.hid hkk; clear hkk HKP
          clear hc hin e1
          generalize D.size.toNat = m at *
          generalize (flK D k (x : Int)).getD zb = s0 at *
          go_wp2_with fail
          go_still_tail 21, (by kernel_rfl)
          go_wp2_with fail
          exact ⟨⟨k + 1, by omega, by go_num, HSET.out.rfd.drew, HKK.out.drew⟩, by simp [intOf]; omega⟩
        · have hke : k = D.op.length := by omega
          have hfl : flK D k = fun k => (opMap D.op k).or (D.fl k) := by unfold flK; rw [hke, List.take_length]
          have HC := Lib.hid hc; clear hc
          have HFL := Lib.hid hfl; clear hfl
          have HKE := Lib.hid hke; clear hke
          go_wp2_with fail
          go_ret
          have hc := HC.out
          have hk1 : Keep (fun i => i = a) wr (wr.setCell ⟨a, 1, none⟩ (.slice none 0 0)) := (Keep.refl (fun i => i = a) wr).setCell (p := ⟨a, 1, none⟩) (.inl rfl) _
          have hoa := own_blk_ne hc.o hc.b (by decide)
          refine ⟨rfl, S, ⟨⟨⟨hc.ok.wf.s1, hc.ok.wf.s2, by rw [← HFL.out]; exact hc.ok.wf.fl, fun _ h => (by cases h)⟩, hc.ok.l0⟩, fun i hi => Nat.lt_of_lt_of_le (hc.lt i hi) hk1.size, g, cg, none, 0, hc.sa, hc.sg, fun k hk => by simp [Value.ownBlock] at hk, hc.b.set_ 1 (.slice none 0 0), ?_, World.ownsRow_nil _ _ _ _⟩, HKP.out.setCell (p := ⟨a, 1, none⟩) (.inl sa) _, fun _ h => .inl h⟩
          have := own_keep hc.o hk1 (fun k hk he => hoa (by rw [hk, he]))
          rw [HFL.out] at this
          exact this
    · obtain ⟨e, hq⟩ := p1 hp0
      have he : D.flush = ({ D with down := true }, 30) := by unfold DS.flush; rw [e, if_pos (by simp)]
      rw [he]
      rw [hq] at HSP
      clear p1 p2 e he hp0 hd hq
      go_enter Try.func32, Try.ntmps32
      go_wp2_with fail
      refine HSP.out.mono ?_
      rintro e w1 ⟨rfl, hr1, hk1⟩
      rw [if_pos (by simp)] at hr1
      have HR1 := Lib.hid hr1; clear hr1
      have HK1 := Lib.hid hk1; clear hk1
      go_wp2_with fail
      go_ret
      exact ⟨rfl, S, HR1.out, HK1.out, fun _ h => .inl h⟩
  · rw [hd] at c3
    have he : D.flush = (D, 30) := by unfold DS.flush DS.power; rw [hd]; rfl
    rw [he]
    go_enter Try.func32, Try.ntmps32
    go_wp2
    go_ret
    exact ⟨rfl, S, HH.out, Grow.refl _ _⟩
end
end Go.Proofs.Ytbgcglojgohjdaa
