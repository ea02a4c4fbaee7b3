/- A disk of the program as one state: what its calls answer, and what they make of it (conditions: the disk is one of its package's make). -/
import Derived.Test.YtbgcglojgohjdaaDkg
namespace Go.Proofs.Ytbgcglojgohjdaa
open Go.RowKit Go.Maps

/-- A disk's state: how many sectors, what was flushed, the open writes, the power. -/
structure DS where
  size : Int
  fl : Int → Option ByteArray
  op : List (Int × ByteArray)
  lim : Bool
  left : Int
  down : Bool

/-- What open writes make of each sector. -/
def opMap (op : List (Int × ByteArray)) : Int → Option ByteArray := op.foldl (fun f x => upd f x.1 x.2) (fun _ => none)
theorem opMap_snoc (op : List (Int × ByteArray)) (n : Int) (s : ByteArray) : opMap (op ++ [(n, s)]) = upd (opMap op) n s := by unfold opMap; rw [List.foldl_append]; rfl
theorem wrs_snoc (op : List (Int × ByteArray)) (n : Int) (s : ByteArray) : wrs (op ++ [(n, s)]) = wrs op ++ [.int .i64 n, .string s] := by unfold wrs; rw [List.flatMap_append]; rfl
theorem opMap_some {op : List (Int × ByteArray)} {k : Int} {s : ByteArray} (h : opMap op k = some s) : (k, s) ∈ op := by
  have g : ∀ (op : List (Int × ByteArray)) (f : Int → Option ByteArray), op.foldl (fun f x => upd f x.1 x.2) f k = some s → (k, s) ∈ op ∨ f k = some s := by
    intro op
    induction op with
    | nil => exact fun f h => .inr h
    | cons x l ih =>
      intro f h
      rcases ih _ h with h | h
      · exact .inl (List.mem_cons_of_mem _ h)
      · by_cases e : k = x.1
        · have h' : some x.2 = some s := by simpa [upd, e] using h
          cases h'
          exact .inl (by rw [e]; exact List.mem_cons_self ..)
        · exact .inr (by simpa [upd, e] using h)
  rcases g op _ h with h | h
  · exact h
  · cases h

structure DS.WF (D : DS) : Prop where
  s1 : 1 ≤ D.size
  s2 : D.size ≤ 4096
  fl : ∀ k s, D.fl k = some s → 0 ≤ k ∧ k < D.size ∧ s.size = 1024
  op : ∀ x ∈ D.op, 0 ≤ x.1 ∧ x.1 < D.size ∧ x.2.size = 1024
theorem DS.WF.now {D : DS} (h : D.WF) {k : Int} {s : ByteArray} (hs : opMap D.op k = some s) : 0 ≤ k ∧ k < D.size ∧ s.size = 1024 := h.op _ (opMap_some hs)

/-- The disk at block a, whose memory lies in S, is in state D. -/
structure Dsk (S : Nat → Prop) (w : World) (a : Nat) (D : DS) : Prop where
  wf : D.WF
  lt : ∀ k, S k → k < w.heap.size
  mem : ∃ (mf mn nf nn : Nat) (A : Option Addr) (c : Nat), S a ∧ S mf ∧ S mn ∧ (∀ k, (Value.slice A D.op.length c).ownBlock = some k → S k) ∧ mf ≠ mn ∧
    Blk w a 57 (dcells D.size mf mn (.slice A D.op.length c) D.lim D.left D.down) ∧ MapI Try.prog 3 w mf (strO D.fl) nf ∧ MapI Try.prog 3 w mn (strO (opMap D.op)) nn ∧
    w.ownsRow 0 61 2 (.slice A D.op.length c) D.op.length (wrs D.op)

/-- What a call may have done that works on the memory S: afterwards it is S'. -/
structure Grow (S S' : Nat → Prop) (w w' : World) : Prop where
  keep : Keep S w w'
  new : ∀ k, S' k → S k ∨ w.heap.size ≤ k
theorem Grow.refl (S : Nat → Prop) (w : World) : Grow S S w w := ⟨Keep.refl S w, fun _ h => .inl h⟩
theorem Grow.trans {S S' S'' : Nat → Prop} {a b c : World} (h : Grow S S' a b) (k : Grow S' S'' b c) : Grow S S'' a c :=
  ⟨h.keep.trans k.keep (fun i hi hs => (h.new i hs).resolve_right (by omega)), fun i hi => by
    rcases k.new i hi with h' | h'
    · exact h.new i h'
    · exact .inr (Nat.le_trans h.keep.size h')⟩
theorem Grow.below {S S' : Nat → Prop} {a b c : World} (h : Grow S S' a b) (k : Below b.heap.size b c) : Grow S S' a c := ⟨h.keep.below k, h.new⟩
theorem Grow.of_below (S : Nat → Prop) {a b : World} (k : Below a.heap.size a b) : Grow S S a b := ⟨Keep.of_below k S, fun _ h => .inl h⟩
theorem Grow.before {S S' : Nat → Prop} {a b c : World} (k : Below a.heap.size a b) (h : Grow S S' b c) : Grow S S' a c := (Grow.of_below S k).trans h
/-- Two memories that are apart, behind a call on the one. -/
theorem Grow.apart {S S' T : Nat → Prop} {w w' : World} (h : Grow S S' w w') (hT : ∀ k, T k → k < w.heap.size) (ha : ∀ k, T k → ¬ S k) : ∀ k, T k → ¬ S' k := fun k hk hs => by
  rcases h.new k hs with h1 | h1
  · exact ha k hk h1
  · have := hT k hk; omega

section
variable {S T : Nat → Prop} {w w' : World} {a : Nat} {D : DS}
theorem Dsk.keep (h : Dsk S w a D) (hk : Keep T w w') (ha : ∀ k, S k → ¬ T k) : Dsk S w' a D := by
  obtain ⟨wf, lt, mf, mn, nf, nn, A, c, sa, sf, sn, so, hne, hb, hf, hn, ho⟩ := h
  exact ⟨wf, fun k hs => Nat.lt_of_lt_of_le (lt k hs) hk.size, mf, mn, nf, nn, A, c, sa, sf, sn, so, hne, hb.keep hk (ha _ sa), hf.keep hk (ha _ sf), hn.keep hk (ha _ sn), own_keep ho hk (fun k hk' => ha _ (so k hk'))⟩
theorem Dsk.below (h : Dsk S w a D) (hk : Below w.heap.size w w') : Dsk S w' a D := h.keep (Keep.of_below hk (fun _ => False)) (fun _ _ h => h)
theorem Dsk.drew (h : Dsk S w a D) : Dsk S w.drew a D := h.below (Below.drew (Below.refl _ _))
theorem Dsk.in_ (h : Dsk S w a D) : S a := let ⟨_, _, _, _, _, _, _, _, sa, _⟩ := h; sa
theorem Dsk.alloc (h : Dsk S w a D) (o : Obj) : Dsk S (w.alloc o) a D := h.below ((Below.refl _ _).alloc (Nat.le_refl _) _)

/-- What power tells. -/
def DS.power (D : DS) : DS × Int := if D.down then (D, 30) else if D.lim && (D.left == 0) then ({ D with down := true }, 30) else (D, 0)
def DS.write (D : DS) (n : Int) (s : ByteArray) : DS × Int :=
  if D.power.2 ≠ 0 then D.power else if n < 0 ∨ D.size ≤ n then (D, 31) else if s.size ≠ 1024 then (D, 32) else ({ D with op := D.op ++ [(n, s)], left := wrap64 (D.left - 1) }, 0)
def DS.flush (D : DS) : DS × Int :=
  if D.power.2 ≠ 0 then D.power else ({ D with op := [], fl := fun k => (opMap D.op k).or (D.fl k), left := wrap64 (D.left - 1) }, 0)
def DS.read (D : DS) (n : Int) : ByteArray × Int :=
  if D.down then (⟨#[]⟩, 30) else if n < 0 ∨ D.size ≤ n then (⟨#[]⟩, 31) else (((opMap D.op n).or (D.fl n)).getD zb, 0)
def DS.setPower (D : DS) (n : Int) : DS := if D.down then D else { D with lim := decide (0 ≤ n), left := n }
def DS.new (n : Int) : DS := { size := n, fl := fun _ => none, op := [], lim := false, left := 0, down := false }
def DS.crash (D : DS) (fates : List Int) : DS := { DS.new D.size with fl := crashFl D.fl D.op fates }

/-- A call on a disk: what it answers, what becomes of the disk. -/
def DskCall (S : Nat → Prop) (a : Nat) (D' : DS) (r : Value) (w : World) (e : Ending) (w' : World) : Prop := e = .returned r ∧ ∃ S', Dsk S' w' a D' ∧ Grow S S' w w'
/-- A new disk. -/
def DskNew (D' : DS) (w : World) (e : Ending) (w' : World) : Prop := ∃ x, e = .returned (Pa x) ∧ ∃ S', Dsk S' w' x D' ∧ Below w.heap.size w w' ∧ ∀ k, S' k → w.heap.size ≤ k

theorem strO_isSome (f : Int → Option ByteArray) (k : Int) : (strO f k).isSome = (f k).isSome := by unfold strO; cases f k <;> rfl
theorem DS.WF.nf {D : DS} (wf : D.WF) {nf : Nat} {m : Nat} (hf : MapI Try.prog 3 w m (strO D.fl) nf) : nf ≤ 4096 := by
  have := hf.le un_int 0 D.size.toNat (fun k hk => by
    rw [strO_isSome] at hk
    obtain ⟨s, hs⟩ := Option.isSome_iff_exists.1 hk
    obtain ⟨h0, h1, _⟩ := wf.fl k s hs
    have := wf.s1
    omega)
  have := wf.s2
  omega
theorem DS.WF.nn {D : DS} (wf : D.WF) {nn : Nat} {m : Nat} (hf : MapI Try.prog 3 w m (strO (opMap D.op)) nn) : nn ≤ 4096 := by
  have := hf.le un_int 0 D.size.toNat (fun k hk => by
    rw [strO_isSome] at hk
    obtain ⟨s, hs⟩ := Option.isSome_iff_exists.1 hk
    obtain ⟨h0, h1, _⟩ := wf.now hs
    have := wf.s1
    omega)
  have := wf.s2
  omega

/-- What 'power' answers, and what it makes of the disk. -/
theorem ds_power (h : Dsk S w a D) : ∃ w1, Calls Try.prog 26 #[Pa a] w (fun e w' => e = .returned (.int .i64 D.power.2) ∧ w1 = w') ∧ Dsk S w1 a D.power.1 ∧ Keep S w w1 ∧ (D.power.2 = 0 → w1 = w) := by
  obtain ⟨wf, lt, mf, mn, nf, nn, A, c, sa, sf, sn, so, hne, hb, hf, hn, ho⟩ := h
  have c4 : w.cell? ⟨a, 4, none⟩ = some (.bool D.lim) := hb.cell 4
  have c5 : w.cell? ⟨a, 5, none⟩ = some (.int .i64 D.left) := hb.cell 5
  have c6 : w.cell? ⟨a, 6, none⟩ = some (.bool D.down) := hb.cell 6
  cases hd : D.down
  · rw [hd] at c6
    cases hl : D.lim
    · rw [hl] at c4
      rw [show D.power = (D, 0) from by simp [DS.power, hd, hl]]
      refine ⟨w, ?_, ⟨wf, lt, mf, mn, nf, nn, A, c, sa, sf, sn, so, hne, hb, hf, hn, ho⟩, Keep.refl _ _, fun _ => rfl⟩
      exact dk_power_stays a w c6 c4
    · rw [hl] at c4
      cases h0 : (D.left == 0)
      · rw [show D.power = (D, 0) from by simp [DS.power, hd, hl, h0]]
        refine ⟨w, ?_, ⟨wf, lt, mf, mn, nf, nn, A, c, sa, sf, sn, so, hne, hb, hf, hn, ho⟩, Keep.refl _ _, fun _ => rfl⟩
        exact dk_power_left a D.left w c6 c4 c5 h0
      · have e0 : D.left = 0 := by simpa using h0
        rw [show D.power = ({ D with down := true }, 30) from by simp [DS.power, hd, hl, h0]]
        have f6 := hb.frozen 6
        have hk : Keep (fun i => i = a) w (w.setCell ⟨a, 6, none⟩ (.bool true)) := (Keep.refl (fun i => i = a) w).setCell (p := ⟨a, 6, none⟩) (.inl rfl) _
        refine ⟨w.setCell ⟨a, 6, none⟩ (.bool true), ?_, ?_, hk.mono (fun i _ e => by rw [e]; exact sa), fun h => by simp at h⟩
        · rw [e0] at c5
          exact dk_power_goes a w c6 c4 c5 f6
        · have hmne := hn.blk_ne hb
          have hmfe := hf.blk_ne hb
          have hbo := own_blk_ne ho hb (by decide)
          exact ⟨⟨wf.s1, wf.s2, wf.fl, wf.op⟩, fun k hs => Nat.lt_of_lt_of_le (lt k hs) hk.size, mf, mn, nf, nn, A, c, sa, sf, sn, so, hne, by simpa [dcells, hd] using hb.set_ 6 (.bool true), hf.setCell hmfe _, hn.setCell hmne _, own_keep ho hk (fun k hk' e => hbo (e ▸ hk'))⟩
  · rw [hd] at c6
    rw [show D.power = (D, 30) from by simp [DS.power, hd]]
    refine ⟨w, ?_, ⟨wf, lt, mf, mn, nf, nn, A, c, sa, sf, sn, so, hne, hb, hf, hn, ho⟩, Keep.refl _ _, fun h => by simp at h⟩
    exact dk_power_gone a w c6

theorem DS.power_zero (h : D.power.2 = 0) : D.down = false ∧ D.power.1 = D := by
  unfold DS.power at h ⊢
  cases hd : D.down
  · cases hq : (D.lim && (D.left == 0)) <;> simp_all
  · simp [hd] at h

theorem ds_write (h : Dsk S w a D) (n : Int) (s : ByteArray) (hs : s.size ≤ maxLen) (hm : D.op.length ≤ 1000000) (hn0 : -9223372036854775808 ≤ n ∧ n ≤ 9223372036854775807) :
    Calls Try.prog 12 #[Pa a, .int .i64 n, .string s] w (DskCall S a (D.write n s).1 (.int .i64 (D.write n s).2) w) := by
  obtain ⟨w1, hp, hd1, hk1, hw1⟩ := ds_power h
  unfold DS.write
  by_cases h0 : D.power.2 = 0
  · obtain ⟨hdn, hpe⟩ := DS.power_zero h0
    rw [if_neg (by simpa using h0)]
    obtain rfl := hw1 h0
    rw [h0] at hp
    obtain ⟨wf, lt, mf, mn, nf, nn, A, c, sa, sf, sn, so, hne, hb, hf, hn, ho⟩ := id h
    by_cases h1 : n < 0 ∨ D.size ≤ n
    · rw [if_pos h1]
      refine (dk_write_sector hp (hb.cell 0) h1).mono ?_
      rintro e w' ⟨rfl, rfl⟩
      exact ⟨rfl, S, h, Grow.refl _ _⟩
    · rw [if_neg h1]
      by_cases h2 : s.size = 1024
      · rw [if_neg (by simpa using h2)]
        rw [hdn] at hb
        have hq := dk_write_ok (n := n) (s := s) hp hb hn ho (Nat.zero_le _) (by omega) (by omega) wf.s2 h2 (by have := wf.nn hn; unfold maxLen; omega) hm
        refine hq.mono ?_
        rintro e w' ⟨rfl, ov', nn', hb', hn', ho', hk', hrow⟩
        obtain ⟨A', c', rfl⟩ := own_slice ho'
        have hka : Keep S w1 w' := hk'.mono (fun i _ hi => by
          rcases hi with rfl | rfl | hi
          · exact sa
          · exact sn
          · exact so _ hi.symm)
        refine ⟨rfl, fun k => S k ∨ (Value.slice A' (D.op.length + 1) c').ownBlock = some k, ⟨⟨wf.s1, wf.s2, wf.fl, ?_⟩, ?_, mf, mn, nf, nn', A', c', .inl sa, .inl sf, .inl sn, ?_, hne, ?_, ?_, ?_, ?_⟩, hka, ?_⟩
        · intro x hx
          rcases List.mem_append.1 hx with hx | hx
          · exact wf.op x hx
          · obtain rfl := List.mem_singleton.1 hx
            exact ⟨by omega, by show n < D.size; omega, h2⟩
        · rintro k (hk | hk)
          · exact Nat.lt_of_lt_of_le (lt k hk) hka.size
          · exact (ho'.lt k hk).2
        · intro k hk
          refine .inr ?_
          simpa using hk
        · simpa [hdn] using hb'
        · exact hf.keep hk' (by
            rintro (e | e | e)
            · exact hf.blk_ne hb e
            · exact hne e
            · exact hf.own_ne ho e.symm)
        · refine hn'.congr (fun j => ?_)
          simp only [opMap_snoc]
          exact strO_upd _ _ _ j
        · simp only [wrs_snoc, List.length_append, List.length_singleton]
          exact ho'
        · rintro k (hk | hk)
          · exact .inl hk
          · rcases hrow with hr | ⟨k', hr, hl⟩
            · exact .inl (so k (hr.symm.trans hk))
            · rw [hr] at hk; cases hk; exact .inr hl
      · rw [if_pos h2]
        refine (dk_write_size hp (hb.cell 0) (by omega) (by omega) (by simpa using h2) hs).mono ?_
        rintro e w' ⟨rfl, rfl⟩
        exact ⟨rfl, S, h, Grow.refl _ _⟩
  · rw [if_pos h0]
    refine (dk_write_err D.power.2 (by simpa using h0) w1 hp).mono ?_
    rintro e w' ⟨rfl, rfl⟩
    exact ⟨rfl, S, hd1, hk1, fun _ h => .inl h⟩

theorem ds_flush (h : Dsk S w a D) : Calls Try.prog 19 #[Pa a] w (DskCall S a D.flush.1 (.int .i64 D.flush.2) w) := by
  obtain ⟨w1, hp, hd1, hk1, hw1⟩ := ds_power h
  unfold DS.flush
  by_cases h0 : D.power.2 = 0
  · obtain ⟨hdn, hpe⟩ := DS.power_zero h0
    rw [if_neg (by simpa using h0)]
    obtain rfl := hw1 h0
    rw [h0] at hp
    obtain ⟨wf, lt, mf, mn, nf, nn, A, c, sa, sf, sn, so, hne, hb, hf, hn, ho⟩ := id h
    rw [hdn] at hb
    refine (dk_flush_ok ⟨A, D.op.length, c, rfl⟩ hp hb hf hn hne (by have := wf.nn hn; have := wf.nf hf; unfold maxLen; omega)).mono ?_
    rintro e w' ⟨rfl, hb', ⟨nf', hf'⟩, hn', hk'⟩
    refine ⟨rfl, S, ⟨⟨wf.s1, wf.s2, ?_, by simp⟩, fun k hk => Nat.lt_of_lt_of_le (lt k hk) hk'.size, mf, mn, nf', 0, none, 0, sa, sf, sn, by simp [Value.ownBlock], hne, ?_, ?_, ?_, ⟨by simp [wrs], .inl ⟨rfl, rfl⟩⟩⟩, ?_, fun _ h => .inl h⟩
    · intro k s hs
      simp only at hs
      cases ho' : opMap D.op k with
      | some t => rw [ho'] at hs; cases hs; exact wf.now ho'
      | none => rw [ho'] at hs; exact wf.fl k s (by simpa using hs)
    · simpa [hdn] using hb'
    · refine hf'.congr (fun k => ?_)
      show (strO (opMap D.op) k).or (strO D.fl k) = ((opMap D.op k).or (D.fl k)).map Value.string
      unfold strO
      cases opMap D.op k <;> simp
    · exact hn'.congr (fun k => rfl)
    · exact hk'.mono (fun i _ hi => by rcases hi with rfl | rfl | rfl <;> assumption)
  · rw [if_pos h0]
    refine (dk_flush_err D.power.2 (by simpa using h0) w1 hp).mono ?_
    rintro e w' ⟨rfl, rfl⟩
    exact ⟨rfl, S, hd1, hk1, fun _ h => .inl h⟩

theorem ds_read (h : Dsk S w a D) (n : Int) : Calls Try.prog 11 #[Pa a, .int .i64 n] w (fun e w' => e = .returned (.tuple #[.string (D.read n).1, .int .i64 (D.read n).2]) ∧ Below w.heap.size w w') := by
  obtain ⟨wf, lt, mf, mn, nf, nn, A, c, sa, sf, sn, so, hne, hb, hf, hn, ho⟩ := h
  have c6 : w.cell? ⟨a, 6, none⟩ = some (.bool D.down) := hb.cell 6
  unfold DS.read
  cases hd : D.down
  · rw [hd] at c6
    by_cases h1 : n < 0 ∨ D.size ≤ n
    · rw [if_neg (by simp), if_pos h1]
      refine (dk_read_sector c6 (hb.cell 0) h1).mono ?_
      rintro e w' ⟨rfl, rfl⟩
      exact ⟨rfl, Below.refl _ _⟩
    · rw [if_neg (by simp), if_neg h1]
      exact dk_read_ok c6 (hb.cell 0) (hb.cell 1) (hb.cell 2) hf hn (by omega) (by omega) wf.s2
  · rw [hd] at c6
    refine (dk_read_down c6).mono ?_
    rintro e w' ⟨rfl, rfl⟩
    exact ⟨rfl, Below.refl _ _⟩

theorem ds_sectors (h : Dsk S w a D) : Calls Try.prog 24 #[Pa a] w (fun e w' => e = .returned (.int .i64 D.size) ∧ w = w') := by
  obtain ⟨wf, lt, mf, mn, nf, nn, A, c, sa, sf, sn, so, hne, hb, hf, hn, ho⟩ := h
  exact dk_sectors a _ w (hb.cell 0)
theorem ds_open (h : Dsk S w a D) : Calls Try.prog 15 #[Pa a] w (fun e w' => e = .returned (.int .i64 (D.op.length : Nat)) ∧ w = w') := by
  obtain ⟨wf, lt, mf, mn, nf, nn, A, c, sa, sf, sn, so, hne, hb, hf, hn, ho⟩ := h
  exact dk_open a _ _ _ w (hb.cell 3)
theorem ds_down (h : Dsk S w a D) : Calls Try.prog 16 #[Pa a] w (fun e w' => e = .returned (.bool D.down) ∧ w = w') := by
  obtain ⟨wf, lt, mf, mn, nf, nn, A, c, sa, sf, sn, so, hne, hb, hf, hn, ho⟩ := h
  exact dk_down a _ w (hb.cell 6)

theorem ds_setpower (h : Dsk S w a D) (n : Int) : Calls Try.prog 18 #[Pa a, .int .i64 n] w (DskCall S a (D.setPower n) (.tuple #[]) w) := by
  obtain ⟨wf, lt, mf, mn, nf, nn, A, c, sa, sf, sn, so, hne, hb, hf, hn, ho⟩ := id h
  have c6 : w.cell? ⟨a, 6, none⟩ = some (.bool D.down) := hb.cell 6
  unfold DS.setPower
  cases hd : D.down
  · rw [hd] at c6
    refine (dk_setpower a n D.left D.lim w c6 (hb.cell 4) (hb.cell 5) (hb.frozen 4) (hb.frozen 5)).mono ?_
    rintro e w' ⟨rfl, rfl⟩
    have hmne := hn.blk_ne hb
    have hmfe := hf.blk_ne hb
    have hbo := own_blk_ne ho hb (by decide)
    have hk : Keep (fun i => i = a) w ((w.setCell ⟨a, 4, none⟩ (.bool (decide (0 ≤ n)))).setCell ⟨a, 5, none⟩ (.int .i64 n)) := ((Keep.refl (fun i => i = a) w).setCell (p := ⟨a, 4, none⟩) (.inl rfl) _).setCell (p := ⟨a, 5, none⟩) (.inl rfl) _
    refine ⟨rfl, S, ⟨⟨wf.s1, wf.s2, wf.fl, wf.op⟩, fun k hs => Nat.lt_of_lt_of_le (lt k hs) hk.size, mf, mn, nf, nn, A, c, sa, sf, sn, so, hne, ?_, (hf.setCell hmfe _).setCell hmfe _, (hn.setCell hmne _).setCell hmne _, own_keep ho hk (fun k hk' e => hbo (e ▸ hk'))⟩, hk.mono (fun i _ e => by rw [e]; exact sa), fun _ h => .inl h⟩
    have := (hb.set_ 4 (.bool (decide (0 ≤ n)))).set_ 5 (.int .i64 n)
    simpa [dcells, hd] using this
  · rw [hd] at c6
    refine (dk_setpower_down a n w c6).mono ?_
    rintro e w' ⟨rfl, rfl⟩
    exact ⟨rfl, S, h, Grow.refl _ _⟩

theorem ds_new (n : Int) (h1 : 1 ≤ n) (h2 : n ≤ 4096) : Calls Try.prog 17 #[.int .i64 n] w (fun e w' => ∃ x, e = .returned (.tuple #[Pa x, .int .i64 0]) ∧ ∃ S', Dsk S' w' x (DS.new n) ∧ Below w.heap.size w w' ∧ ∀ k, S' k → w.heap.size ≤ k) := by
  refine (dk_new_ok n w h1 h2).mono ?_
  rintro e w' ⟨rfl, rfl⟩
  have hz : ∀ o1 o2 o3 : Obj, ((((w.alloc o1).alloc o2).alloc o3).heap.size) = w.heap.size + 3 := fun _ _ _ => by simp
  refine ⟨w.heap.size + 2, rfl, fun k => w.heap.size ≤ k ∧ k < w.heap.size + 3, ⟨⟨h1, h2, fun _ _ h => (by cases h), fun _ h => (by cases h)⟩, fun k hk => by rw [hz]; exact hk.2, w.heap.size, w.heap.size + 1, 0, 0, none, 0, by omega, by omega, by omega, fun k hk => by simp [Value.ownBlock] at hk, by omega, ?_, ?_, ?_, ⟨rfl, .inl ⟨rfl, rfl⟩⟩⟩, (((Below.refl _ _).alloc (Nat.le_refl _) _).alloc (by simp) _).alloc (by simp; omega) _, fun k hk => hk.1⟩
  · have := heap_alloc_new ((w.alloc (.map #[] 0)).alloc (.map #[] 0)) (.cells #[.int .i64 n, .map (some w.heap.size), .map (some (w.heap.size + 1)), .slice none 0 0, .bool false, .int .i64 0, .bool false] 57)
    simpa [Blk, dcells, DS.new] using this
  · exact ((MapI.made Try.prog 3 w).alloc _).alloc _
  · have := (MapI.made Try.prog 3 (w.alloc (.map #[] 0))).alloc (.cells #[.int .i64 n, .map (some w.heap.size), .map (some (w.heap.size + 1)), .slice none 0 0, .bool false, .int .i64 0, .bool false] 57)
    rw [show (w.alloc (.map #[] 0)).heap.size = w.heap.size + 1 from by simp] at this
    exact this

theorem crash_keys (fates : List Int) (op : List (Int × ByteArray)) (Z : Int → Prop) (hds : ∀ x ∈ op, Z x.1) : ∀ (fl : Int → Option ByteArray), (∀ k s, fl k = some s → Z k) → ∀ k s, crashFl fl op fates k = some s → Z k := by
  unfold crashFl
  generalize hz : op.zip fates = z
  have hz' : ∀ x ∈ z, Z x.1.1 := by
    rintro ⟨x, f⟩ hx
    rw [← hz] at hx
    exact hds x (List.of_mem_zip hx).1
  clear hz hds
  induction z with
  | nil => exact fun _ h => h
  | cons x z ih =>
    intro fl hfl
    refine ih (fun y hy => hz' y (List.mem_cons_of_mem _ hy)) _ (fun k s hs => ?_)
    have hx := hz' x (by simp)
    unfold crashStep at hs
    split at hs
    · unfold upd at hs
      split at hs
      · rename_i e; rw [e]; exact hx
      · exact hfl k s hs
    · split at hs
      · unfold upd at hs
        split at hs
        · rename_i e; rw [e]; exact hx
        · exact hfl k s hs
      · exact hfl k s hs

theorem ds_crash (h : Dsk S w a D) (hm : D.op.length ≤ 1000000) {A : Option Addr} {n c : Nat} {fates : List Int} (hfa : RI w A n fates) :
    Calls Try.prog 14 #[Pa a, .slice A n c] w (DskNew (D.crash fates) w) := by
  obtain ⟨wf, lt, mf, mn, nf, nn, Ao, co, sa, sf, sn, so, hne, hb, hf, hn, ho⟩ := h
  refine (dk_crash hb hf ho hfa hm (by have := wf.nf hf; omega) (fun x hx => ?_) (fun k s hs => (wf.fl k s hs).2.2)).mono ?_
  · obtain ⟨h0, h1, h2⟩ := wf.op x hx
    have := wf.s2
    exact ⟨by omega, by omega, h2⟩
  · rintro e w' ⟨x, mf', mn', nf', rfl, hb', hf', hn', hbl, l1, l2, l3, hne'⟩
    refine ⟨x, rfl, fun k => k = x ∨ k = mf' ∨ k = mn', ⟨⟨wf.s1, wf.s2, fun k s hs => ?_, fun _ h => (by cases h)⟩, ?_, mf', mn', nf', 0, none, 0, .inl rfl, .inr (.inl rfl), .inr (.inr rfl), fun k hk => by simp [Value.ownBlock] at hk, hne', hb', hf', hn', ⟨rfl, .inl ⟨rfl, rfl⟩⟩⟩, hbl, ?_⟩
    · have hk := crash_keys fates D.op (fun k => 0 ≤ k ∧ k < D.size) (fun x hx => ⟨(wf.op x hx).1, (wf.op x hx).2.1⟩) D.fl (fun k s hs => ⟨(wf.fl k s hs).1, (wf.fl k s hs).2.1⟩) k s hs
      exact ⟨hk.1, hk.2, crash_sizes fates D.op (fun x hx => (wf.op x hx).2.2) D.fl (fun k s hs => (wf.fl k s hs).2.2) k s hs⟩
    · rintro k (rfl | rfl | rfl)
      · exact hb'.lt
      · exact hf'.lt
      · exact hn'.lt
    · rintro k (rfl | rfl | rfl) <;> assumption

theorem wrs_one (l : List (Int × ByteArray)) : ∀ u ∈ wrs l, u.oneCell' = true := by
  intro u hu
  unfold wrs at hu
  obtain ⟨x, _, hx⟩ := List.mem_flatMap.1 hu
  simp only [List.mem_cons, List.not_mem_nil, or_false] at hx
  rcases hx with rfl | rfl <;> rfl
theorem ds_copy (h : Dsk S w a D) (hm : D.op.length ≤ 1000000) : Calls Try.prog 20 #[Pa a] w (DskNew D w) := by
  obtain ⟨wf, lt, mf, mn, nf, nn, Ao, co, sa, sf, sn, so, hne, hb, hf, hn, ho⟩ := h
  refine (dk_copy hb hf hn ho hne (wrs_one _) hm).mono ?_
  rintro e w' ⟨x, mf', mn', ov, rfl, hb', hf', hn', ho', hbl, l1, l2, l3, hne'⟩
  obtain ⟨A', c', rfl⟩ := own_slice ho'
  refine ⟨x, rfl, fun k => k = x ∨ k = mf' ∨ k = mn' ∨ (Value.slice A' D.op.length c').ownBlock = some k, ⟨wf, ?_, mf', mn', nf, nn, A', c', .inl rfl, .inr (.inl rfl), .inr (.inr (.inl rfl)), fun k hk => .inr (.inr (.inr hk)), hne', hb', hf', hn', own_base ho' (fun _ _ => Nat.zero_le _)⟩, hbl, ?_⟩
  · rintro k (rfl | rfl | rfl | hk)
    · exact hb'.lt
    · exact hf'.lt
    · exact hn'.lt
    · exact (ho'.lt k hk).2
  · rintro k (rfl | rfl | rfl | hk)
    · exact l1
    · exact l2
    · exact l3
    · exact (ho'.lt k hk).1
end
end Go.Proofs.Ytbgcglojgohjdaa
