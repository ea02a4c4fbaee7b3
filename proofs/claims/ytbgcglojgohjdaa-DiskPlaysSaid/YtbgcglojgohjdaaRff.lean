/- The reference's disk: Copy (conditions: the disk is one of its package's make). -/
import Derived.Test.YtbgcglojgohjdaaRfe
namespace Go.Proofs.Ytbgcglojgohjdaa
attribute [local go_sem ↓] Go.wp_at_zero Go.wp_at_succ
open Go.RowKit Go.Maps

theorem heap_alloc_at (w : World) (o : Obj) (b : Nat) (hb : b = w.heap.size) : (w.alloc o).heap[b]? = some o := by rw [hb]; exact heap_alloc_new w o
theorem own_empty {W : World} {b base : Nat} {e : TypeId} (size : Nat) (h : W.heap[b]? = some (.cells #[] e (0, 0))) (hb : base ≤ b) : W.ownsRow base e size (.slice (some ⟨b, 0, none⟩) 0 0) 0 [] :=
  ⟨by simp, .inr ⟨b, 0, #[], rfl, hb, h, Nat.le_refl _, Nat.zero_le _, by simp, by simp⟩⟩
theorem bl_alloc {w W : World} (h : Below w.heap.size w W) (o : Obj) : Below w.heap.size w (W.alloc o) := h.alloc h.size o
theorem bl_drew {w W : World} (h : Below w.heap.size w W) : Below w.heap.size w W.drew := h.drew

/-- append(T{}, src...) where the order is open: what is there then. -/
theorem step_app_empty {P : Program} {w W : World} {ops : Array Oper} {o : Oper} {a : Act} {K : Act → World → Prop} {Q : Exit → Act → World → Prop} {E : Prop} (hgd : o.guard = none) (s x : Operand) (t : TypeId)
    (ho : o.op = .call { callee := .builtin .append, args := #[s, x], argTypes := #[t, t] })
    (e : TypeId) (i : TypeInfo) (z : Value) (size bytes : Nat) (ht : P.underlying t = some (.slice e)) (hf : P.info? e = some i ∧ i.zero = some z ∧ i.size = size ∧ i.bytes = bytes) (hzs : z.cells.size = size) (hsz : 0 < size)
    (hB : Below w.heap.size w W) (b : Nat) (hs : a.eval s = .slice (some ⟨b, 0, none⟩) 0 0) (hb : w.heap.size ≤ b) (he : W.heap[b]? = some (.cells #[] e (0, 0)))
    (A : Option Addr) (m c : Nat) (news : List Value) (hx : a.eval x = .slice A m c) (hr : Reads w w.heap.size size A m news) (h1 : ∀ u ∈ news, u.oneCell' = true)
    (h63 : m ≤ maxLen) (hbytes : m * bytes ≤ 140737488355328)
    (h : ∀ A' q' w', w'.ownsRow w.heap.size e size (.slice A' m q') m news → Below w.heap.size w w' → (∀ (b' : Nat) (e' : TypeId), e' ≠ e → W.heap[b']? = some (Obj.cells #[] e' (0, 0)) → w'.heap[b']? = some (Obj.cells #[] e' (0, 0))) →
      (∀ (base' : Nat) (e' : TypeId) (size' : Nat) (v' : Value) (n' : Nat) (xs' : List Value), e' ≠ e → W.ownsRow base' e' size' v' n' xs' → w'.ownsRow base' e' size' v' n' xs') → K (a.put o.dst (.slice A' m q')) w') :
    if Region.wanted o (yielded ops a.tmps) = true then Oper.wp P o a W K Q else E := by
  obtain ⟨hi, hz, hsize, hby⟩ := hf
  have own := own_empty (base := w.heap.size) size he hb
  refine step_append_any W hgd s x t ho w.heap.size e i z size bytes ht hi hz hsize hby hzs hsz _ 0 [] hs own w.heap.size A m c news hx (hr.below hB) h1 (by rw [Nat.zero_add]; exact h63) (by rw [Nat.zero_add]; exact hbytes) hB.size ?_
  intro v' w' hown hg hat
  rw [Nat.zero_add, List.nil_append] at hown
  obtain ⟨A', q', rfl⟩ := own_slice hown
  refine h A' q' w' hown (hB.grown hg hB.size (fun k hk => (own.lt k hk).1)) (fun b' e' hne hb' => (hg.block b' (lt_of_heap hb') (fun hq => own_blk_ne own (show Blk W b' e' #[] from hb') (fun h => hne h.symm) hq.symm)).trans hb') (fun base' e' size' v' n' xs' hne hrow => hrow.kept hg ?_)
  rcases hrow.2 with ⟨rfl, _⟩ | ⟨gg, cap, cur, rfl, _⟩
  · exact .inl rfl
  · exact .inr (fun hq => own_own_ne hrow own hne gg rfl hq.symm)

section
variable {S : Nat → Prop} {w : World} {a : Nat} {D : DS}
set_option maxHeartbeats 8000000 in
theorem rf_copy (h : Rfd S w a D) (hm : D.op.length ≤ 1000000) :
    Calls Try.prog 36 #[Pa a] w (RfdNew D w) := by
  obtain ⟨i0, hi, hz0, hz1, hz2⟩ := info_parts info_str
  obtain ⟨j0, ji, jz0, jz1, jz2⟩ := info_parts info_rwrite
  obtain ⟨g, cg, A, c, hc⟩ := h.cells
  have c0 : w.cell? ⟨a, 0, none⟩ = some (.slice (some ⟨g, 0, none⟩) D.size.toNat cg) := hc.b.cell 0
  have c1 : w.cell? ⟨a, 1, none⟩ = some (.slice A D.op.length c) := hc.b.cell 1
  have c2 : w.cell? ⟨a, 2, none⟩ = some (.int .i64 D.leftR) := hc.b.cell 2
  have c3 : w.cell? ⟨a, 3, none⟩ = some (.bool D.down) := hc.b.cell 3
  have s1 := hc.ok.wf.s1
  have s2 := hc.ok.wf.s2
  have hsz : D.size.toNat ≤ 4096 := by omega
  have hmpos : 0 < D.size.toNat := by omega
  have ro := Reads.of_own hc.o
  have rp := Reads.of_own hc.p
  have HRO := Lib.hid ro; clear ro
  have HRP := Lib.hid rp; clear rp
  have HC := Lib.hid hc; clear hc h
  clear s1 s2
  generalize hL : D.leftR = L at *
  have HL := Lib.hid hL; clear hL
  go_enter Try.func36, Try.ntmps36
  go_wp2_with fail
  go_region_held3 (fun w' => w'.cell? ⟨a, 0, none⟩ = some (.slice (some ⟨g, 0, none⟩) D.size.toNat cg) ∧ w'.cell? ⟨a, 1, none⟩ = some (.slice A D.op.length c) ∧ w'.cell? ⟨a, 2, none⟩ = some (.int .i64 L) ∧ w'.cell? ⟨a, 3, none⟩ = some (.bool D.down)) (go_keep)
    (first
      | (refine step_app_empty (by rfl) (.tmp 11) (.tmp 15) _ (by rfl) 9 i0 (.string ⟨#[]⟩) 1 16 Try.underlying30 ⟨hi, hz0, hz1, hz2⟩ rfl (by decide) (by repeat (first | exact HB76.out | exact HB9.out | exact Below.refl _ _ | apply bl_alloc | apply bl_drew)) _ (by rfl) (by first | exact Nat.le_refl _ | (simp; done) | (simp; omega) | exact Nat.le_of_lt (Nat.lt_succ_of_le HB76.out.size) | exact HB76.out.size) (by first | exact HE76.out _ 9 (by decide) (by first | exact heap_alloc_at _ _ _ (by simp) | exact (Below.heap_alloc _ _ _ (by simp)).trans (heap_alloc_at _ _ _ (by simp))) | (first | exact heap_alloc_at _ _ _ (by simp) | exact (Below.heap_alloc _ _ _ (by simp)).trans (heap_alloc_at _ _ _ (by simp)))) (some ⟨g, 0, none⟩) D.size.toNat cg (oldL D.fl D.size.toNat) (by rfl) HRO.out (oldL_one _ _) (by unfold maxLen; omega) (by omega) ?_; intro A9 q9 w9 hown hb hE hR; have HO9 := Lib.hid hown; have HB9 := Lib.hid hb; have HE9 := Lib.hid hE; (try replace HO76 := Lib.hid (hR _ 76 _ _ _ _ (by decide) (by first | exact HO76.out | exact HO76.out.alloc _))); clear hown hb hE hR; have x09 : w9.cell? ⟨a, 0, none⟩ = some (.slice (some ⟨g, 0, none⟩) D.size.toNat cg) := cell_later HB9.out c0; have x19 : w9.cell? ⟨a, 1, none⟩ = some (.slice A D.op.length c) := cell_later HB9.out c1; have x29 : w9.cell? ⟨a, 2, none⟩ = some (.int .i64 L) := cell_later HB9.out c2; have x39 : w9.cell? ⟨a, 3, none⟩ = some (.bool D.down) := cell_later HB9.out c3)
      | (refine step_app_empty (by rfl) (.tmp 17) (.tmp 21) _ (by rfl) 76 j0 (.agg #[.int .i64 0, .string ⟨#[]⟩]) 2 24 Try.underlying66 ⟨ji, jz0, jz1, jz2⟩ rfl (by decide) (by repeat (first | exact HB76.out | exact HB9.out | exact Below.refl _ _ | apply bl_alloc | apply bl_drew)) _ (by rfl) (by first | exact Nat.le_refl _ | (simp; done) | (simp; omega) | exact Nat.le_of_lt (Nat.lt_succ_of_le HB9.out.size) | exact HB9.out.size) (by first | exact HE9.out _ 76 (by decide) (by first | exact heap_alloc_at _ _ _ (by simp) | exact (Below.heap_alloc _ _ _ (by simp)).trans (heap_alloc_at _ _ _ (by simp))) | (first | exact heap_alloc_at _ _ _ (by simp) | exact (Below.heap_alloc _ _ _ (by simp)).trans (heap_alloc_at _ _ _ (by simp)))) A D.op.length c (wrs D.op) (by rfl) HRP.out (wrs_one _) (by unfold maxLen; omega) (by omega) ?_; intro A76 q76 w76 hown hb hE hR; have HO76 := Lib.hid hown; have HB76 := Lib.hid hb; have HE76 := Lib.hid hE; (try replace HO9 := Lib.hid (hR _ 9 _ _ _ _ (by decide) (by first | exact HO9.out | exact HO9.out.alloc _))); clear hown hb hE hR; have x076 : w76.cell? ⟨a, 0, none⟩ = some (.slice (some ⟨g, 0, none⟩) D.size.toNat cg) := cell_later HB76.out c0; have x176 : w76.cell? ⟨a, 1, none⟩ = some (.slice A D.op.length c) := cell_later HB76.out c1; have x276 : w76.cell? ⟨a, 2, none⟩ = some (.int .i64 L) := cell_later HB76.out c2; have x376 : w76.cell? ⟨a, 3, none⟩ = some (.bool D.down) := cell_later HB76.out c3))
  all_goals
    obtain ⟨g9, q9', hv, hg1, hg2⟩ := HO9.out.form hmpos
    obtain ⟨rfl, rfl⟩ : A9 = some ⟨g9, 0, none⟩ ∧ q9 = q9' := by injection hv with h1 _ h3; exact ⟨h1, h3⟩
    clear hv
    go_wp2_with fail
    go_ret
    have hc := HC.out
    refine ⟨_, rfl, fun i => i = _ ∨ i = g9 ∨ (Value.slice A76 D.op.length q76).ownBlock = some i, ⟨hc.ok, ?_, g9, q9, A76, q76, .inl rfl, .inr (.inl rfl), fun k hk => .inr (.inr hk), ?_, (own_base HO9.out (fun _ _ => Nat.zero_le _)).alloc _, (own_base HO76.out (fun _ _ => Nat.zero_le _)).alloc _⟩, bl_alloc (by first | exact HB76.out | exact HB9.out) _, ?_⟩
    · rintro k (rfl | rfl | hk)
      · simp
      · have := (HO9.out.lt _ rfl).2; simp; omega
      · have := (HO76.out.lt k hk).2; simp; omega
    · rw [HL.out]; exact Blk.new _ _ _
    · rintro k (rfl | rfl | hk)
      · first | exact HB76.out.size | exact HB9.out.size
      · exact hg1
      · exact (HO76.out.lt k hk).1
end
end Go.Proofs.Ytbgcglojgohjdaa
