/- An array of eight lists of texts, in memory of its own (conditions: none). -/
import Derived.Test.YtbgcglojgohjdaaLsa
namespace Go.Proofs.Ytbgcglojgohjdaa
open Go.RowKit Go.Maps

theorem reads_news (w : World) (v : Value) (t : TypeId) : Reads (w.alloc (.cells #[v] t)) (w.heap.size + 1) 1 (some ⟨w.heap.size, 0, none⟩) 1 [v] :=
  ⟨rfl, fun _ => ⟨_, rfl, Nat.lt_succ_self _, World.news_of_block (heap_alloc_new w _)⟩⟩
theorem Grow.apart' {S S' T : Nat → Prop} {w w' : World} (h : Grow S S' w w') (hT : ∀ k, T k → k < w.heap.size) (ha : ∀ k, T k → ¬ S k) : ∀ k, T k → ¬ S' k := h.apart hT ha
/-- The array at mb: its i-th list is L i; its memory is M. -/
structure MayW (B : Nat) (M : Nat → Prop) (w : World) (mb : Nat) (L : Nat → List ByteArray) : Prop where
  hmb : M mb
  ge : ∀ i, M i → B ≤ i
  lt : ∀ i, M i → i < w.heap.size
  rows : ∃ (Af : Nat → Option Addr) (qf : Nat → Nat) (cs : Array Value), Blk w mb 31 cs ∧ cs.size = 8 ∧ (∀ i, i < 8 → cs[i]? = some (.slice (Af i) (L i).length (qf i))) ∧
    (∀ i, i < 8 → w.ownsRow B 9 1 (.slice (Af i) (L i).length (qf i)) (L i).length ((L i).map Value.string)) ∧
    (∀ i, i < 8 → ∀ k, (Value.slice (Af i) (L i).length (qf i)).ownBlock = some k → M k) ∧
    (∀ i j, i < 8 → j < 8 → i ≠ j → ∀ k, (Value.slice (Af i) (L i).length (qf i)).ownBlock = some k → (Value.slice (Af j) (L j).length (qf j)).ownBlock ≠ some k)
section
variable {B : Nat} {M T : Nat → Prop} {w w' : World} {mb : Nat} {L L' : Nat → List ByteArray}
theorem MayW.keep (h : MayW B M w mb L) (hk : Keep T w w') (ha : ∀ k, M k → ¬ T k) : MayW B M w' mb L := by
  obtain ⟨hmb, ge, lt, Af, qf, cs, hb, hs, hc, ho, hm, hd⟩ := h
  exact ⟨hmb, ge, fun i hi => Nat.lt_of_lt_of_le (lt i hi) hk.size, Af, qf, cs, hb.keep hk (ha _ hmb), hs, hc, fun i hi => own_keep (ho i hi) hk (fun k hk' => ha _ (hm i hi k hk')), hm, hd⟩
theorem MayW.below (h : MayW B M w mb L) (hk : Below w.heap.size w w') : MayW B M w' mb L := h.keep (Keep.of_below hk (fun _ => False)) (fun _ _ h => h)
theorem MayW.congr (h : MayW B M w mb L) (e : ∀ i, i < 8 → L i = L' i) : MayW B M w mb L' := by
  obtain ⟨hmb, ge, lt, Af, qf, cs, hb, hs, hc, ho, hm, hd⟩ := h
  refine ⟨hmb, ge, lt, Af, qf, cs, hb, hs, fun i hi => by rw [← e i hi]; exact hc i hi, fun i hi => by rw [← e i hi]; exact ho i hi, fun i hi => by rw [← e i hi]; exact hm i hi, fun i j hi hj hne => by rw [← e i hi, ← e j hj]; exact hd i j hi hj hne⟩
theorem MayW.new (w : World) (hB : B ≤ w.heap.size) : MayW B (fun i => i = w.heap.size) (w.alloc (.cells #[.slice none 0 0, .slice none 0 0, .slice none 0 0, .slice none 0 0, .slice none 0 0, .slice none 0 0, .slice none 0 0, .slice none 0 0] 31)) w.heap.size (fun _ => []) := by
  refine ⟨rfl, fun i hi => by omega, fun i hi => by simp; omega, fun _ => none, fun _ => 0, _, Blk.new w _ _, rfl, fun i hi => ?_, fun i hi => World.ownsRow_nil _ _ _ _, fun i hi k hk => by simp [Value.ownBlock] at hk, fun i j _ _ _ k hk => by simp [Value.ownBlock] at hk⟩
  match i, hi with
  | 0, _ => rfl
  | 1, _ => rfl
  | 2, _ => rfl
  | 3, _ => rfl
  | 4, _ => rfl
  | 5, _ => rfl
  | 6, _ => rfl
  | 7, _ => rfl
def updL (L : Nat → List ByteArray) (i : Nat) (s : ByteArray) : Nat → List ByteArray := fun j => if j = i then L i ++ [s] else L j
/-- The i-th list, laid open. -/
structure RowAt (B : Nat) (M : Nat → Prop) (w : World) (mb : Nat) (L : Nat → List ByteArray) (i : Nat) (A : Option Addr) (q : Nat) : Prop where
  cell : w.cell? ⟨mb, i, none⟩ = some (.slice A (L i).length q)
  frozen : w.frozen? ⟨mb, i, none⟩ = false
  own : w.ownsRow B 9 1 (.slice A (L i).length q) (L i).length ((L i).map Value.string)
  inM : ∀ k, (Value.slice A (L i).length q).ownBlock = some k → M k
  push : ∀ (W w2 : World) (s : ByteArray) (A' : Option Addr) (q' : Nat), Below w.heap.size w W → W.grownBy w2 (Value.slice A (L i).length q).ownBlock → w2.ownsRow B 9 1 (.slice A' ((L i).length + 1) q') ((L i).length + 1) ((L i).map Value.string ++ [.string s]) →
    ((Value.slice A' ((L i).length + 1) q').ownBlock = (Value.slice A (L i).length q).ownBlock ∨ ∃ k, (Value.slice A' ((L i).length + 1) q').ownBlock = some k ∧ W.heap.size ≤ k) →
    MayW B (fun k => M k ∨ (Value.slice A' ((L i).length + 1) q').ownBlock = some k) (w2.setCell ⟨mb, i, none⟩ (.slice A' ((L i).length + 1) q')) mb (updL L i s) ∧
    Grow M (fun k => M k ∨ (Value.slice A' ((L i).length + 1) q').ownBlock = some k) w (w2.setCell ⟨mb, i, none⟩ (.slice A' ((L i).length + 1) q')) ∧ w2.cell? ⟨mb, i, none⟩ = some (.slice A (L i).length q) ∧ w2.frozen? ⟨mb, i, none⟩ = false
theorem MayW.row (h : MayW B M w mb L) (i : Nat) (hi : i < 8) : ∃ A q, RowAt B M w mb L i A q := by
  obtain ⟨hmb, ge, lt, Af, qf, cs, hb, hs, hc, ho, hm, hd⟩ := h
  refine ⟨Af i, qf i, by rw [hb.cell]; exact hc i hi, hb.frozen i, ho i hi, hm i hi, fun W w2 s A' q' hW g own hat => ?_⟩
  have hgw := Grow.of_below M hW
  replace hb := hb.keep (Keep.of_below hW (fun _ => False)) (fun h => h)
  replace ho := fun j hj => own_keep (ho j hj) (Keep.of_below hW (fun _ => False)) (fun _ _ h => h)
  replace lt := fun j hj => Nat.lt_of_lt_of_le (lt j hj) hW.size
  suffices hx : MayW B (fun k => M k ∨ (Value.slice A' ((L i).length + 1) q').ownBlock = some k) (w2.setCell ⟨mb, i, none⟩ (.slice A' ((L i).length + 1) q')) mb (updL L i s) ∧ Grow M (fun k => M k ∨ (Value.slice A' ((L i).length + 1) q').ownBlock = some k) W (w2.setCell ⟨mb, i, none⟩ (.slice A' ((L i).length + 1) q')) ∧ w2.cell? ⟨mb, i, none⟩ = some (.slice (Af i) (L i).length (qf i)) ∧ w2.frozen? ⟨mb, i, none⟩ = false by
    exact ⟨hx.1, hgw.trans hx.2.1, hx.2.2⟩
  clear hgw hW
  have hne := own_blk_ne (ho i hi) hb (by decide)
  have hk0 : Keep (fun k => some k = (Value.slice (Af i) (L i).length (qf i)).ownBlock) W w2 := Keep.of_grown g _ (fun k hk => .inl hk.symm)
  have hb2 := hb.keep hk0 (fun h => hne h.symm)
  have hk1 : Keep (fun k => k = mb) w2 (w2.setCell ⟨mb, i, none⟩ (.slice A' ((L i).length + 1) q')) := (Keep.refl (fun k => k = mb) w2).setCell (p := ⟨mb, i, none⟩) (.inl rfl) _
  have hsz := hk0.size
  have hbm := hb.lt
  have hnew : ∀ k, (Value.slice A' ((L i).length + 1) q').ownBlock = some k → M k ∨ W.heap.size ≤ k := fun k hk => by
    rcases hat with e | ⟨k', e, hl⟩
    · exact .inl (hm i hi k (e.symm.trans hk))
    · rw [e] at hk; cases hk; exact .inr hl
  have hgm : Grow M (fun k => M k ∨ (Value.slice A' ((L i).length + 1) q').ownBlock = some k) W (w2.setCell ⟨mb, i, none⟩ (.slice A' ((L i).length + 1) q')) :=
    ⟨(hk0.mono (fun k _ hk => hm i hi k hk.symm)).trans (hk1.mono (T := M) (fun k _ hk => by rw [hk]; exact hmb)) (fun _ _ h => h), fun k hk => by
      rcases hk with hk | hk
      · exact .inl hk
      · exact hnew k hk⟩
  refine ⟨⟨.inl hmb, ?_, ?_, fun j => if j = i then A' else Af j, fun j => if j = i then q' else qf j, cs.setIfInBounds i (.slice A' ((L i).length + 1) q'), hb2.set_ i _, by simpa using hs, ?_, ?_, ?_, ?_⟩, hgm, by rw [hb2.cell]; exact hc i hi, hb2.frozen i⟩
  · rintro k (hk | hk)
    · exact ge k hk
    · exact (own.lt k hk).1
  · rintro k (hk | hk)
    · exact Nat.lt_of_lt_of_le (lt k hk) hgm.keep.size
    · have := (own.lt k hk).2; simpa using this
  · intro j hj
    rw [Array.getElem?_setIfInBounds]
    by_cases e : i = j
    · subst e
      rw [if_pos rfl, if_pos (by omega)]
      simp [updL]
    · rw [if_neg e, hc j hj]
      have e' : ¬ j = i := fun h => e h.symm
      simp [updL, e']
  · intro j hj
    by_cases e : j = i
    · subst e
      have := own_keep own hk1 (fun k hk he => own_blk_ne own hb2 (by decide) (by rw [hk, he]))
      simpa [updL] using this
    · have h1 := own_keep (ho j hj) hk0 (fun k hk he => hd j i hj hi e k hk he.symm)
      have h2 := own_keep h1 hk1 (fun k hk he => own_blk_ne h1 hb2 (by decide) (by rw [hk, he]))
      simpa [updL, e] using h2
  · intro j hj k hk
    by_cases e : j = i
    · subst e
      exact .inr (by simpa [updL] using hk)
    · exact .inl (hm j hj k (by simpa [updL, e] using hk))
  · intro j1 j2 h1 h2 hne' k hk
    by_cases e1 : j1 = i
    · have e2 : ¬ j2 = i := fun h => hne' (e1.trans h.symm)
      subst e1
      simp only [updL, if_true, e2, if_false, List.length_append, List.length_singleton] at hk ⊢
      intro hk2
      rcases hat with e | ⟨k', e, hl⟩
      · exact hd j2 j1 h2 h1 e2 k hk2 (e.symm.trans hk)
      · rw [e] at hk; cases hk
        have := lt k (hm j2 h2 k hk2)
        omega
    · by_cases e2 : j2 = i
      · subst e2
        simp only [updL, if_true, e1, if_false, List.length_append, List.length_singleton] at hk ⊢
        intro hk2
        rcases hat with e | ⟨k', e, hl⟩
        · exact hd j1 j2 h1 h2 e1 k hk (e.symm.trans hk2)
        · rw [e] at hk2; cases hk2
          have := lt k (hm j1 h1 k hk)
          omega
      · simp only [updL, e1, e2, if_false] at hk ⊢
        exact hd j1 j2 h1 h2 hne' k hk
end
end Go.Proofs.Ytbgcglojgohjdaa
