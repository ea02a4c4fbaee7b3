/- DiskLasts: plain laws; the list of calls that the law makes itself (conditions: none). -/
import Derived.Test.YtbgcglojgohjdaaMade
import Derived.Test.YtbgcglojgohjdaaOpn
import Derived.Test.YtbgcglojgohjdaaApp
namespace Go.Proofs.Ytbgcglojgohjdaa
attribute [local go_sem ↓] Go.wp_at_zero Go.wp_at_succ
open Go.RowKit Go.Maps

/-- A disk whose power was never told of. -/
structure Calm (D : DS) : Prop where
  lim : D.lim = false
  down : D.down = false
  size : D.size = 8
theorem calm_power {D : DS} (h : Calm D) : D.power = (D, 0) := by unfold DS.power; rw [h.down, h.lim]; rfl
theorem calm_write {D : DS} (h : Calm D) (n : Int) (s : ByteArray) (hs : s.size = 1024) : (0 ≤ n ∧ n < 8 → D.write n s = ({ D with op := D.op ++ [(n, s)], left := wrap64 (D.left - 1) }, 0)) ∧ (¬ (0 ≤ n ∧ n < 8) → D.write n s = (D, 31)) := by
  have h8 := h.size
  unfold DS.write
  rw [calm_power h]
  constructor
  · intro hn
    rw [if_neg (by simp), if_neg (by omega), if_neg (by omega)]
  · intro hn
    rw [if_neg (by simp), if_pos (by omega)]
theorem calm_step {D : DS} (h : Calm D) (c : CallS) (hc : c.kind ≠ 3) : Calm (madeStep D c) := by
  unfold madeStep
  split
  · obtain ⟨h1, h2⟩ := calm_write h c.n (dat c.a c.b) (dat_size _ _)
    by_cases hn : 0 ≤ c.n ∧ c.n < 8
    · rw [h1 hn]; exact ⟨h.lim, h.down, h.size⟩
    · rw [h2 hn]; exact h
  · split
    · unfold DS.flush; rw [calm_power h, if_neg (by simp)]; exact ⟨h.lim, h.down, h.size⟩
    · exact h
theorem calm_made (cs : List CallS) (h : ∀ c ∈ cs, c.kind ≠ 3) : Calm (madeD cs) := by
  have g : ∀ (cs : List CallS) (D : DS), (∀ c ∈ cs, c.kind ≠ 3) → Calm D → Calm (cs.foldl madeStep D) := by
    intro cs
    induction cs with
    | nil => exact fun D _ h => h
    | cons c l ih => exact fun D h hD => ih _ (fun x hx => h x (List.mem_cons_of_mem _ hx)) (calm_step hD c (h c (by simp)))
  exact g cs _ h ⟨rfl, rfl, rfl⟩
def flushCall : CallS := ⟨1, 0, 0, 0, 0, []⟩
theorem made_flushed (cs : List CallS) (h : ∀ c ∈ cs, c.kind ≠ 3) : Calm (madeD (cs ++ [flushCall])) ∧ (madeD (cs ++ [flushCall])).op = [] := by
  refine ⟨calm_made _ (fun c hc => ?_), ?_⟩
  · rcases List.mem_append.1 hc with hc | hc
    · exact h c hc
    · obtain rfl := List.mem_singleton.1 hc; decide
  · unfold madeD
    rw [List.foldl_append]
    show (madeStep (madeD cs) flushCall).op = []
    unfold madeStep
    rw [if_neg (by decide), if_pos (by decide)]
    unfold DS.flush
    rw [calm_power (calm_made cs h), if_neg (by simp)]

/-! ### the law's own list of calls -/
/-- A call as it lies in memory: its fates' address and capacity beside it. -/
structure CallM where
  c : CallS
  A : Option Addr
  q : Nat
def crow (x : CallM) : List Value := [.int .i64 x.c.kind, .int .i64 x.c.n, .int .i64 x.c.cut, .int .u8 x.c.a, .int .u8 x.c.b, .slice x.A x.c.fates.length x.q]
def crows (l : List CallM) : List Value := l.flatMap crow
theorem crows_length (l : List CallM) : (crows l).length = l.length * 6 := by
  induction l with
  | nil => rfl
  | cons x l ih => simp only [crows, List.flatMap_cons, List.length_append, List.length_cons] at ih ⊢; rw [ih]; simp [crow]; omega
theorem crows_at (l : List CallM) (i j : Nat) (h : i < l.length) (hj : j < 6) : (crows l)[i * 6 + j]? = (crow l[i])[j]? := by
  induction l generalizing i with
  | nil => simp at h
  | cons x l ih =>
    have hc : crows (x :: l) = crow x ++ crows l := rfl
    cases i with
    | zero => rw [hc, Nat.zero_mul, Nat.zero_add, List.getElem?_append_left (by simp [crow]; omega)]; rfl
    | succ i =>
      rw [hc, List.getElem?_append_right (by simp [crow]; omega)]
      have := ih i (by simpa using h)
      rw [show (i + 1) * 6 + j - (crow x).length = i * 6 + j by simp [crow]; omega]
      simpa using this
theorem crows_snoc (l : List CallM) (x : CallM) : crows (l ++ [x]) = crows l ++ crow x := by unfold crows; rw [List.flatMap_append]; simp
theorem crow_one (x : CallM) : ∀ u ∈ crow x, u.oneCell' = true := by
  intro u hu
  simp only [crow, List.mem_cons, List.not_mem_nil, or_false] at hu
  rcases hu with rfl | rfl | rfl | rfl | rfl | rfl <;> rfl
/-- A call is right. -/
def CallM.ok (w : World) (x : CallM) : Prop := RI w x.A x.c.fates.length x.c.fates ∧ i64r x.c.kind ∧ i64r x.c.n ∧ i64r x.c.cut
theorem rc_of_own {w : World} {base : Nat} {A : Option Addr} {q : Nat} {l : List CallM} (h : w.ownsRow base 27 6 (.slice A l.length q) l.length (crows l)) (hok : ∀ x ∈ l, x.ok w) (hl : l.length ≤ 1000) : RC w A l.length (l.map (·.c)) := by
  refine ⟨by simp, by omega, fun hn => ?_⟩
  obtain ⟨g, cap, hv, _⟩ := h.form hn
  obtain ⟨rfl, rfl⟩ : A = some ⟨g, 0, none⟩ ∧ q = cap := by injection hv with h1 _ h3; exact ⟨h1, h3⟩
  refine ⟨_, rfl, fun i hi => ?_⟩
  have hc : ∀ j, j < 6 → w.cell? ⟨g, i * 6 + j, none⟩ = (crow l[i])[j]? := fun j hj => by rw [h.cellAt (i * 6 + j) (by omega), crows_at l i j hi hj]
  have e0 : (⟨g, 0, none⟩ : Addr).add (i * 6) = ⟨g, i * 6, none⟩ := by unfold Addr.add; split <;> simp_all
  have e1 : (l.map (·.c)).getD i default = (l[i]).c := by rw [List.getD_eq_getElem?_getD, List.getElem?_map, List.getElem?_eq_getElem hi]; rfl
  rw [e0, e1]
  obtain ⟨o0, o1, o2, o3⟩ := hok _ (List.getElem_mem hi)
  exact ⟨hc 0 (by omega), hc 1 (by omega), hc 2 (by omega), hc 3 (by omega), hc 4 (by omega), ⟨_, _, hc 5 (by omega), o0⟩, o1, o2, o3⟩

/-! ### what may stand in a sector -/
/-- The bytes that may stand in sector n behind the writes op. -/
def mayL (fl : Int → Option ByteArray) (op : List (Int × ByteArray)) (n : Int) : List ByteArray := (fl n).getD zb :: (op.filter fun x => x.1 = n).map (·.2)
theorem mayL_snoc (fl : Int → Option ByteArray) (op : List (Int × ByteArray)) (n m : Int) (s : ByteArray) : mayL fl (op ++ [(m, s)]) n = if m = n then mayL fl op n ++ [s] else mayL fl op n := by
  unfold mayL
  rw [List.filter_append]
  by_cases h : m = n <;> simp [h]
def byteAt (s : ByteArray) (k : Nat) : UInt8 := s.data.toList.getD k 0
theorem size_list (a : ByteArray) : a.data.toList.length = a.size := by rw [Array.length_toList]; rfl
theorem torn_list (a b : ByteArray) (q : Nat) : (torn a b q).data.toList = a.data.toList.take q ++ (b.data.toList.take b.size).drop q := by
  unfold torn
  rw [ByteArray.data_append, Array.toList_append, ByteArray.data_extract, ByteArray.data_extract, Array.toList_extract, Array.toList_extract, List.extract_eq_take_drop, List.extract_eq_take_drop, List.drop_zero, Nat.sub_zero, List.drop_take]
theorem torn_byte (a b : ByteArray) (q k : Nat) (ha : a.size = 1024) (hb : b.size = 1024) (hq : q ≤ 1024) (hk : k < 1024) : byteAt (torn a b q) k = if k < q then byteAt a k else byteAt b k := by
  have la := (size_list a).trans ha
  have lb := (size_list b).trans hb
  unfold byteAt
  have lt : (b.data.toList.take b.size) = b.data.toList := List.take_of_length_le (by omega)
  rw [torn_list, lt, List.getD_eq_getElem?_getD, List.getElem?_append, List.length_take, List.getD_eq_getElem?_getD, List.getD_eq_getElem?_getD]
  by_cases h : k < q
  · rw [if_pos h, if_pos (by omega), List.getElem?_take, if_pos h]
  · rw [if_neg h, if_neg (by omega), List.getElem?_drop, show q + (k - min q a.data.toList.length) = k by omega]
/-- Each byte behind a crash is one that may stand there. -/
theorem crash_may (fl : Int → Option ByteArray) (fates : List Int) (hfl : ∀ k s, fl k = some s → s.size = 1024) (n : Int) (k : Nat) (hk : k < 1024) : ∀ (op : List (Int × ByteArray)), (∀ x ∈ op, x.2.size = 1024) → ∀ j, j ≤ op.length → ∃ t ∈ mayL fl (op.take j) n, byteAt t k = byteAt ((crashFl fl (op.take j) fates n).getD zb) k := by
  intro op hop j
  induction j with
  | zero => intro _; exact ⟨(fl n).getD zb, by simp [mayL], by simp [crashFl]⟩
  | succ j ih =>
    intro hj
    obtain ⟨t, ht, hb⟩ := ih (by omega)
    have hlt : j < op.length := by omega
    have htk : op.take (j + 1) = op.take j ++ [op[j]] := List.take_succ_eq_append_getElem hlt
    have hmono : ∀ u, u ∈ mayL fl (op.take j) n → u ∈ mayL fl (op.take (j + 1)) n := fun u hu => by
      rw [htk, show op[j] = ((op[j]).1, (op[j]).2) from rfl, mayL_snoc]
      split
      · exact List.mem_append_left _ hu
      · exact hu
    by_cases hf : j < fates.length
    · rw [crash_step fl op fates j hlt hf]
      unfold crashStep
      have hsz : ((crashFl fl (op.take j) fates n).getD zb).size = 1024 := by
        cases hq : crashFl fl (op.take j) fates n with
        | none => exact zb_size
        | some s => exact crash_sizes fates (op.take j) (fun x hx => hop x (List.mem_of_mem_take hx)) fl hfl n s hq
      have hos := hop _ (List.getElem_mem hlt)
      by_cases hn : (op[j]).1 = n
      · have hnew : (op[j]).2 ∈ mayL fl (op.take (j + 1)) n := by
          rw [htk, show op[j] = ((op[j]).1, (op[j]).2) from rfl, mayL_snoc, if_pos hn]
          simp
        simp only
        split
        · exact ⟨_, hnew, by simp [upd, hn]⟩
        · split
          · rw [show (upd (crashFl fl (op.take j) fates) (op[j]).1 (torn (op[j]).2 ((crashFl fl (op.take j) fates (op[j]).1).getD zb) (fates.getD j 0 % 1024).toNat) n).getD zb = torn (op[j]).2 ((crashFl fl (op.take j) fates n).getD zb) (fates.getD j 0 % 1024).toNat by simp [upd, hn]]
            rw [torn_byte _ _ _ _ hos hsz (by omega) hk]
            split
            · exact ⟨_, hnew, rfl⟩
            · exact ⟨t, hmono t ht, hb⟩
          · exact ⟨t, hmono t ht, hb⟩
      · have hne : ¬ n = (op[j]).1 := fun h => hn h.symm
        simp only
        split
        · exact ⟨t, hmono t ht, by simp only [upd, hne, if_false]; exact hb⟩
        · split
          · exact ⟨t, hmono t ht, by simp only [upd, hne, if_false]; exact hb⟩
          · exact ⟨t, hmono t ht, hb⟩
    · rw [crash_end fl op fates (j + 1) (by omega)]
      rw [crash_end fl op fates j (by omega)] at hb
      exact ⟨t, hmono t ht, hb⟩
end Go.Proofs.Ytbgcglojgohjdaa
