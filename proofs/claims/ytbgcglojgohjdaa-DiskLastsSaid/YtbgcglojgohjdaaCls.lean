/- Lists of calls, as the laws read them; 'long' (conditions: none). -/
import Derived.Test.YtbgcglojgohjdaaNil
namespace Go.Proofs.Ytbgcglojgohjdaa
open Go.RowKit Go.Maps

/-- A call of a script. -/
structure CallS where
  kind : Int
  n : Int
  cut : Int
  a : Int
  b : Int
  fates : List Int
instance : Inhabited CallS := ⟨⟨0, 0, 0, 0, 0, []⟩⟩
def i64r (x : Int) : Prop := -9223372036854775808 ≤ x ∧ x ≤ 9223372036854775807
/-- The six cells at q are a call. -/
structure IsCall (w : World) (q : Addr) (c : CallS) : Prop where
  c0 : w.cell? q = some (.int .i64 c.kind)
  c1 : w.cell? ⟨q.block, q.off + 1, none⟩ = some (.int .i64 c.n)
  c2 : w.cell? ⟨q.block, q.off + 2, none⟩ = some (.int .i64 c.cut)
  c3 : w.cell? ⟨q.block, q.off + 3, none⟩ = some (.int .u8 c.a)
  c4 : w.cell? ⟨q.block, q.off + 4, none⟩ = some (.int .u8 c.b)
  c5 : ∃ A cap, w.cell? ⟨q.block, q.off + 5, none⟩ = some (.slice A c.fates.length cap) ∧ RI w A c.fates.length c.fates
  r0 : i64r c.kind
  r1 : i64r c.n
  r2 : i64r c.cut
theorem IsCall.below {w w1 : World} {q : Addr} {c : CallS} (h : IsCall w q c) (hb : Below w.heap.size w w1) : IsCall w1 q c :=
  ⟨cell_later hb h.c0, cell_later hb h.c1, cell_later hb h.c2, cell_later hb h.c3, cell_later hb h.c4, by obtain ⟨A, cap, h1, h2⟩ := h.c5; exact ⟨A, cap, cell_later hb h1, h2.below hb⟩, h.r0, h.r1, h.r2⟩
/-- A slice that reads as a list of calls. -/
def RC (w : World) (A : Option Addr) (n : Nat) (cs : List CallS) : Prop :=
  cs.length = n ∧ n ≤ 9223372036854775807 ∧ (0 < n → ∃ ad, A = some ad ∧ ∀ i, i < n → IsCall w (ad.add (i * 6)) (cs.getD i default))
theorem RC.below {w w1 : World} {A : Option Addr} {n : Nat} {cs : List CallS} (h : RC w A n cs) (hb : Below w.heap.size w w1) : RC w1 A n cs :=
  ⟨h.1, h.2.1, fun hn => by
    obtain ⟨ad, e, hc⟩ := h.2.2 hn
    exact ⟨ad, e, fun i hi => (hc i hi).below hb⟩⟩

/-- More than is played? -/
def longB (cs : List CallS) : Bool := decide (120 < cs.length) || cs.any fun c => decide (200 < c.fates.length)
theorem longB_no {cs : List CallS} (h : longB cs = false) : cs.length ≤ 120 ∧ ∀ c ∈ cs, c.fates.length ≤ 200 := by
  unfold longB at h
  simp only [Bool.or_eq_false_iff, decide_eq_false_iff_not, List.any_eq_false, decide_eq_true_eq] at h
  exact ⟨by omega, fun c hc => by have := h.2 c hc; omega⟩

set_option maxHeartbeats 1000000 in
theorem law_long {w : World} {A : Option Addr} {n c : Nat} {cs : List CallS} (h : RC w A n cs) : Calls Try.prog 9 #[.slice A n c] w fun e w' => e = .returned (.bool (longB cs)) ∧ w = w' := by
  obtain ⟨hl, hn, hc⟩ := h
  by_cases h120 : 120 < n
  · have hlong : longB cs = true := by unfold longB; rw [decide_eq_true (by omega)]; rfl
    rw [hlong]
    clear hc hlong
    have HL := Lib.hid hl; clear hl
    go_enter Try.func9, Try.ntmps9
    go_wp2
    go_ret
    exact ⟨rfl, rfl⟩
  · have HL := Lib.hid hl; clear hl
    have HC := Lib.hid hc; clear hc
    go_enter Try.func9, Try.ntmps9
    go_wp2
    go_loop [3] (fun i => ∃ k : Nat, k ≤ n ∧ i = .int .i64 k ∧ ∀ j, j < k → (cs.getD j default).fates.length ≤ 200) (fun i => n - (intOf i).toNat)
    case atStart => exact ⟨0, Nat.zero_le _, rfl, fun j hj => by omega⟩
    case round =>
      obtain ⟨k, hk, rfl, hp⟩ := hrel
      have HP := Lib.hid hp; clear hp
      by_cases hlt : k < n
      · obtain ⟨ad, rfl, hcs⟩ := HC.out (by omega)
        obtain ⟨Af, cap, hf, _⟩ := (hcs k hlt).c5
        clear hcs
        generalize hfl : (cs.getD k default).fates.length = m at *
        have HF := Lib.hid hfl; clear hfl
        by_cases h2 : 200 < m
        · have hlong : longB cs = true := by
            unfold longB
            rw [Bool.or_eq_true]
            refine .inr (List.any_eq_true.2 ⟨cs.getD k default, ?_, decide_eq_true (by rw [HF.out]; omega)⟩)
            rw [List.getD_eq_getElem?_getD, List.getElem?_eq_getElem (by have := HL.out; omega)]
            exact List.getElem_mem _
          have HG := Lib.hid hlong; clear hlong
          go_wp2
          go_ret
          exact ⟨by rw [HG.out]; rfl, rfl⟩
        · go_wp2
          go_round
          case rel => exact ⟨k + 1, by omega, by go_num, fun j hj => by
            by_cases e : j = k
            · rw [e, HF.out]; omega
            · exact HP.out j (by omega)⟩
          case measure => simp [intOf]; omega
      · have hlong : longB cs = false := by
          unfold longB
          rw [Bool.or_eq_false_iff]
          refine ⟨decide_eq_false (by have := HL.out; omega), List.any_eq_false.2 fun c hc => ?_⟩
          obtain ⟨j, hj, rfl⟩ := List.mem_iff_getElem.1 hc
          have := HP.out j (by have := HL.out; omega)
          rw [List.getD_eq_getElem?_getD, List.getElem?_eq_getElem hj] at this
          simpa using this
        have HG := Lib.hid hlong; clear hlong
        go_wp2
        go_ret
        exact ⟨by rw [HG.out]; rfl, rfl⟩
end Go.Proofs.Ytbgcglojgohjdaa
