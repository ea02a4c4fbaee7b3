/- Arguments opened: slices of calls, slices of whole numbers (conditions: none). -/
import Derived.Test.YtbgcglojgohjdaaCls
import Derived.Deep.Slices
import Derived.Deep.Fields
import Derived.ChangeSame
import Derived.ProofKit
import Derived.OpenShut
namespace Go.Proofs.Ytbgcglojgohjdaa
open Go.ChangeShapes Go.WideShapes Go.Deep Go.RowKit

section
variable {H : Type} {enc : TypeId × Value → H} {P : Program} {w : World} {base : Nat} {spare : Nat → Bool} {held : Bool}
theorem open_slice_fields {t e : TypeId} {fs : Array Field} {fuel : Nat} {cs : List Value} {x : DataW H × List MemPlace} (ht : P.underlying t = some (.slice e)) (he : P.underlying e = some (.struct fs))
    (hone : oneCellFields P fs = true) (hC : P.cellsOf e = fs.size) (h : DataW.trod enc P w base spare held fuel t cs = some x) :
    (cs = [.slice none 0 0] ∧ x = (.nil, [])) ∨
    ∃ (a : Addr) (len cap m : Nat) (D : Nat → DataW H) (Pl : Nat → List MemPlace), cs = [.slice (some a) len cap] ∧ base ≤ a.block ∧ len ≤ cap ∧ cap ≤ maxLen ∧ m = (if spare a.block then cap else len) ∧
      x = (.slice ((List.range len).map D) ((List.range (m - len)).map fun j => D (len + j)), MemPlace.row a (m * fs.size) ++ (List.range m).flatMap Pl) ∧
      ∀ i, i < m → ∃ (ys : List (DataW H × List MemPlace)) (n : Nat), D i = .agg (ys.map (·.1)) ∧ Pl i = ys.flatMap (·.2) ∧ ys.length = fs.size ∧
        ∀ (j : Nat) (f : Field), fs[j]? = some f → ∃ (v : Value) (y : DataW H × List MemPlace), w.cell? (a.add (i * fs.size + j)) = some v ∧ ys[j]? = some y ∧ DataW.trod enc P w base spare held n f.type [v] = some y := by
  rcases open_slice ht h with h0 | ⟨a, len, cap, m, n, D, Pl, hcs, hb, hl, hm, hmm, hx, hi⟩
  · exact .inl h0
  · refine .inr ⟨a, len, cap, m, D, Pl, hcs, hb, hl, hm, hmm, by rw [hC] at hx; exact hx, fun i him => ?_⟩
    obtain ⟨cs', hc, ht'⟩ := hi i him
    rw [hC] at hc
    obtain ⟨ys, n', hn', hy, hlen, hyl, hf⟩ := DataW.trod_struct he ht'
    obtain ⟨_, hcl, hat⟩ := World.cells?_some hc
    simp only [Prod.mk.injEq] at hy
    refine ⟨ys, n', hy.1, hy.2, hyl, fun j f hj => ?_⟩
    obtain ⟨ho, hk⟩ := hone_of hone j f hj
    have hjl : j < fs.size := (Array.getElem?_eq_some_iff.1 hj).1
    have hcell := hat j hjl
    have hv : cs'[j]? = some (cs'[j]'(by omega)) := List.getElem?_eq_getElem (by omega)
    have h1 := hf j f hj
    rw [ho, hk] at h1
    have hone' : (cs'.drop j).take 1 = [cs'[j]'(by omega)] := by
      rw [List.drop_eq_getElem_cons (by omega)]
      rfl
    rw [hone'] at h1
    have hys : ys[j]? = some (ys[j]'(by omega)) := List.getElem?_eq_getElem (by omega)
    refine ⟨_, _, ?_, hys, h1.trans hys⟩
    rw [← Go.Deep.add_add, hcell, hv]
end

section
variable {H : Type} {enc : TypeId × Value → H} {w : World} {fuel : Nat}
theorem i64r_of_wf {x : Int} (h : (Lit.int .i64 x).wf = true) : i64r x := by
  simp only [Lit.wf, Bool.and_eq_true, decide_eq_true_eq] at h
  exact h
/-- A slice of whole numbers that is read. -/
theorem read_ints {v : Value} {x : DataW H × List MemPlace} (h : DataW.trod enc Try.prog w 0 (fun _ => true) true fuel 23 [v] = some x) :
    ∃ (A : Option Addr) (zs : List Int) (cap : Nat), v = .slice A zs.length cap ∧ RI w A zs.length zs ∧ ∀ z ∈ zs, i64r z := by
  rcases open_ints Try.underlying23 Try.underlying3 (by kernel_rfl) h with ⟨hcs, _⟩ | ⟨a, len, cap, zs, hcs, _, hl, hm, hz, _, hcell, hwz⟩
  · refine ⟨none, [], 0, by simpa using hcs, ⟨rfl, by simp, fun h => by simp at h⟩, by simp⟩
  · simp only [if_true] at hz
    have hlt : (zs.take len).length = len := by rw [List.length_take]; omega
    refine ⟨some a, zs.take len, cap, by rw [hlt]; simpa using hcs, ⟨rfl, by rw [hlt]; unfold maxLen at hm; omega, fun _ => ⟨a, rfl, fun j hj => ?_⟩⟩, fun z hz' => i64r_of_wf (hwz z (List.mem_of_mem_take hz'))⟩
    rw [hlt] at hj
    rw [hcell j (by omega), List.getD_eq_getElem?_getD, List.getD_eq_getElem?_getD, List.getElem?_take, if_pos hj]
theorem add_field (q : Addr) (k : Nat) (h : 0 < k) : q.add k = ⟨q.block, q.off + k, none⟩ := by unfold Addr.add; rw [if_neg (by omega)]

/-- A slice of calls that is read. -/
theorem read_calls {v : Value} {x : DataW H × List MemPlace} (h : DataW.trod enc Try.prog w 0 (fun _ => true) true fuel 22 [v] = some x) :
    ∃ (A : Option Addr) (n cap : Nat) (cs : List CallS), v = .slice A n cap ∧ RC w A n cs := by
  rcases open_slice_fields Try.underlying22 Try.underlying27 (by kernel_rfl) (by kernel_rfl) h with ⟨hcs, _⟩ | ⟨a, len, cap, m, D, Pl, hcs, _, hl, hm, hmm, _, hi⟩
  · exact ⟨none, 0, 0, [], by simpa using hcs, rfl, by simp, fun h => by simp at h⟩
  · have hone : ∀ i, i < len → ∃ c, IsCall w (a.add (i * 6)) c := by
      intro i hil
      simp only [if_true] at hmm
      obtain ⟨ys, n, _, _, _, hf⟩ := hi i (by omega)
      obtain ⟨v0, y0, g0, _, t0⟩ := hf 0 _ rfl
      obtain ⟨v1, y1, g1, _, t1⟩ := hf 1 _ rfl
      obtain ⟨v2, y2, g2, _, t2⟩ := hf 2 _ rfl
      obtain ⟨v3, y3, g3, _, t3⟩ := hf 3 _ rfl
      obtain ⟨v4, y4, g4, _, t4⟩ := hf 4 _ rfl
      obtain ⟨v5, y5, g5, _, t5⟩ := hf 5 _ rfl
      obtain ⟨k0, e0, _, r0⟩ := DataW.trod_int Try.underlying3 t0
      obtain ⟨k1, e1, _, r1⟩ := DataW.trod_int Try.underlying3 t1
      obtain ⟨k2, e2, _, r2⟩ := DataW.trod_int Try.underlying3 t2
      obtain ⟨k3, e3, _, r3⟩ := DataW.trod_int Try.underlying5 t3
      obtain ⟨k4, e4, _, r4⟩ := DataW.trod_int Try.underlying5 t4
      obtain ⟨Af, zs, cf, rfl, hri, _⟩ := read_ints t5
      obtain rfl : v0 = _ := by simpa using e0
      obtain rfl : v1 = _ := by simpa using e1
      obtain rfl : v2 = _ := by simpa using e2
      obtain rfl : v3 = _ := by simpa using e3
      obtain rfl : v4 = _ := by simpa using e4
      have sz : ∀ j, a.add (i * 6 + j) = (a.add (i * 6)).add j := fun j => (Go.Deep.add_add a _ _).symm
      rw [show (Array.size _ : Nat) = 6 from rfl] at g0 g1 g2 g3 g4 g5
      rw [sz] at g0 g1 g2 g3 g4 g5
      rw [add_field _ _ (by omega)] at g1 g2 g3 g4 g5
      exact ⟨⟨k0, k1, k2, k3, k4, zs⟩, ⟨g0, g1, g2, g3, g4, ⟨Af, cf, g5, hri⟩, i64r_of_wf r0, i64r_of_wf r1, i64r_of_wf r2⟩⟩
    obtain ⟨f, hf⟩ : ∃ f : Nat → CallS, ∀ i, i < len → IsCall w (a.add (i * 6)) (f i) := ⟨fun i => if h : i < len then (hone i h).choose else default, fun i hil => by
      show IsCall w (a.add (i * 6)) (if h : i < len then (hone i h).choose else default)
      rw [dif_pos hil]; exact (hone i hil).choose_spec⟩
    refine ⟨some a, len, cap, (List.range len).map f, by simpa using hcs, by simp, by unfold maxLen at hm; omega, fun _ => ⟨a, rfl, fun i hil => ?_⟩⟩
    have : ((List.range len).map f).getD i default = f i := by
      rw [List.getD_eq_getElem?_getD, List.getElem?_map, List.getElem?_range hil]; rfl
    rw [this]; exact hf i hil
end
end Go.Proofs.Ytbgcglojgohjdaa
