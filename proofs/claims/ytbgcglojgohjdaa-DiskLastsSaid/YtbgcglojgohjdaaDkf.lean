/- Crash of a disk (conditions: the disk is one of its package's make). -/
import Derived.Test.YtbgcglojgohjdaaDke
import Derived.Deep.DeepCutAuto
namespace Go.Proofs.Ytbgcglojgohjdaa
attribute [local go_sem ↓] Go.wp_at_zero Go.wp_at_succ
open Go.RowKit Go.Maps

/-- A slice of ints that is read, nil and empty ones too. -/
def RI (w : World) (A : Option Addr) (n : Nat) (xs : List Int) : Prop :=
  xs.length = n ∧ n ≤ 9223372036854775807 ∧ (0 < n → ∃ ad, A = some ad ∧ ∀ j, j < n → w.cell? (ad.add j) = some (.int .i64 (xs.getD j 0)))
theorem RI.below {w w1 : World} {A : Option Addr} {n : Nat} {xs : List Int} (h : RI w A n xs) (hb : Below w.heap.size w w1) : RI w1 A n xs :=
  ⟨h.1, h.2.1, fun hn => by
    obtain ⟨ad, e, hc⟩ := h.2.2 hn
    exact ⟨ad, e, fun j hj => (hb.cell (World.block_lt_of_cell? w _ (hc j hj))).trans (hc j hj)⟩⟩

/-- The first k bytes of a, the others of b. -/
def torn (a b : ByteArray) (k : Nat) : ByteArray := a.extract 0 k ++ b.extract k b.size
def crashStep (fl : Int → Option ByteArray) (x : (Int × ByteArray) × Int) : Int → Option ByteArray :=
  if x.2 = 1 then upd fl x.1.1 x.1.2 else if 1 < x.2 then upd fl x.1.1 (torn x.1.2 ((fl x.1.1).getD zb) (x.2 % 1024).toNat) else fl
def crashFl (fl : Int → Option ByteArray) (op : List (Int × ByteArray)) (fates : List Int) : Int → Option ByteArray := (op.zip fates).foldl crashStep fl
def wrs (l : List (Int × ByteArray)) : List Value := l.flatMap fun x => [.int .i64 x.1, .string x.2]
theorem wrs_length (l : List (Int × ByteArray)) : (wrs l).length = l.length * 2 := by
  induction l with
  | nil => rfl
  | cons x l ih => simp only [wrs, List.flatMap_cons, List.length_append, List.length_cons, List.length_nil] at ih ⊢; omega
theorem wrs_at (l : List (Int × ByteArray)) (i : Nat) (h : i < l.length) : (wrs l)[i * 2]? = some (.int .i64 (l[i]).1) ∧ (wrs l)[i * 2 + 1]? = some (.string (l[i]).2) := by
  induction l generalizing i with
  | nil => simp at h
  | cons x l ih =>
    cases i with
    | zero => exact ⟨rfl, rfl⟩
    | succ i =>
      have hc : wrs (x :: l) = [.int .i64 x.1, .string x.2] ++ wrs l := rfl
      have := ih i (by simpa using h)
      rw [hc, List.getElem?_append_right (by simp; omega), List.getElem?_append_right (by simp; omega)]
      simp only [List.length_cons, List.length_nil, List.getElem_cons_succ]
      rw [show (i + 1) * 2 - 2 = i * 2 by omega, show (i + 1) * 2 + 1 - 2 = i * 2 + 1 by omega]
      exact this

theorem crash_step (fl : Int → Option ByteArray) (op : List (Int × ByteArray)) (fates : List Int) (k : Nat) (h : k < op.length) (h2 : k < fates.length) :
    crashFl fl (op.take (k + 1)) fates = crashStep (crashFl fl (op.take k) fates) (op[k], fates.getD k 0) := by
  unfold crashFl
  have e : (op.take (k + 1)).zip fates = (op.take k).zip fates ++ [(op[k], fates.getD k 0)] := by
    apply List.ext_getElem?
    intro i
    rw [List.getElem?_append]
    simp only [List.length_zip, List.length_take]
    rw [show min (min k op.length) fates.length = k by omega]
    by_cases hi : i < k
    · rw [if_pos hi]; simp [List.zip, List.getElem?_zipWith, hi, Nat.lt_succ_of_lt hi]
    · rw [if_neg hi]
      by_cases he : i = k
      · subst he
        simp [List.zip, List.getElem?_zipWith, List.getElem?_eq_getElem h, List.getElem?_eq_getElem h2, List.getD_eq_getElem?_getD]
      · rw [List.getElem?_eq_none (by simp; omega), List.getElem?_eq_none (by simp; omega)]
  rw [e, List.foldl_append]
  rfl
theorem crash_end (fl : Int → Option ByteArray) (op : List (Int × ByteArray)) (fates : List Int) (k : Nat) (h : fates.length ≤ k) : crashFl fl (op.take k) fates = crashFl fl op fates := by
  unfold crashFl
  have e : (op.take k).zip fates = op.zip fates := by
    apply List.ext_getElem?
    intro i
    simp only [List.zip, List.getElem?_zipWith, List.getElem?_take]
    by_cases hi : i < k
    · rw [if_pos hi]
    · rw [if_neg hi, List.getElem?_eq_none (l := fates) (by omega)]
      cases op[i]? <;> rfl
  rw [e]
theorem torn_size (a b : ByteArray) (k : Nat) (ha : a.size = 1024) (hb : b.size = 1024) (hk : k ≤ 1024) : (torn a b k).size = 1024 := by
  unfold torn; rw [ByteArray.size_append, ByteArray.size_extract, ByteArray.size_extract]; omega
theorem crash_sizes (fates : List Int) (op : List (Int × ByteArray)) (hds : ∀ x ∈ op, x.2.size = 1024) : ∀ (fl : Int → Option ByteArray), (∀ k s, fl k = some s → s.size = 1024) → ∀ k s, crashFl fl op fates k = some s → s.size = 1024 := by
  unfold crashFl
  generalize hz : op.zip fates = z
  have hz' : ∀ x ∈ z, x.1.2.size = 1024 := by
    rintro ⟨x, f⟩ hx
    rw [← hz] at hx
    exact hds x (List.of_mem_zip hx).1
  clear hz hds
  induction z with
  | nil => exact fun _ h => h
  | cons x z ih =>
    intro fl hfl
    refine ih (fun y hy => hz' y (List.mem_cons_of_mem _ hy)) _ (fun k s hs => ?_)
    have hx := hz' x (by simp)
    unfold crashStep at hs
    split at hs
    · unfold upd at hs
      split at hs
      · cases hs; exact hx
      · exact hfl k s hs
    · split at hs
      · unfold upd at hs
        split at hs
        · cases hs
          refine torn_size _ _ _ hx ?_ (by omega)
          cases hq : fl x.1.1 with
          | none => exact zb_size
          | some t => exact hfl _ t hq
        · exact hfl k s hs
      · exact hfl k s hs

theorem strO_upd (f : Int → Option ByteArray) (n : Int) (s : ByteArray) (j : Int) : upd (strO f) n (.string s) j = strO (upd f n s) j := by
  unfold upd strO; by_cases h : j = n
  · simp only [h, if_true, Option.map_some]
  · simp only [h, if_false]

/-- A crash: another disk, in new memory. -/
def CrashW (size : Int) (fl : Int → Option ByteArray) (w : World) (e : Ending) (w' : World) : Prop :=
  ∃ x mf mn nf : Nat, e = .returned (Pa x) ∧ Blk w' x 57 (dcells size mf mn (.slice none 0 0) false 0 false) ∧ MapI Try.prog 3 w' mf (strO fl) nf ∧ MapI Try.prog 3 w' mn (fun _ => none) 0 ∧
    Below w.heap.size w w' ∧ w.heap.size ≤ x ∧ w.heap.size ≤ mf ∧ w.heap.size ≤ mn ∧ mf ≠ mn

set_option maxHeartbeats 1600000 in
theorem dk_crash {base a mf mn nf : Nat} {w : World} {fl : Int → Option ByteArray} {size left : Int} {lim down : Bool} {A Af : Option Addr} {c nfa cf : Nat} {op : List (Int × ByteArray)} {fates : List Int}
    (hblk : Blk w a 57 (dcells size mf mn (.slice A op.length c) lim left down)) (hf : MapI Try.prog 3 w mf (strO fl) nf)
    (hrow : w.ownsRow base 61 2 (.slice A op.length c) op.length (wrs op)) (hfa : RI w Af nfa fates) (hop : op.length ≤ 1000000) (hnf : nf ≤ 1000000) (hds : ∀ x ∈ op, -9223372036854775808 ≤ x.1 ∧ x.1 ≤ 9223372036854775807 ∧ x.2.size = 1024) (hfs : ∀ k s, fl k = some s → s.size = 1024) :
    Calls Try.prog 14 #[Pa a, .slice Af nfa cf] w (CrashW size (crashFl fl op fates) w) := by
  have c0 : w.cell? ⟨a, 0, none⟩ = some (.int .i64 size) := hblk.cell 0
  have c1 : w.cell? ⟨a, 1, none⟩ = some (.map (some mf)) := hblk.cell 1
  have c3 : w.cell? ⟨a, 3, none⟩ = some (.slice A op.length c) := hblk.cell 3
  have hla := hblk.lt
  have hmm := @run_makeMap Try.prog
  have HF := Lib.hid hf; clear hf
  have HR := Lib.hid hrow; clear hrow
  have HA := Lib.hid hfa; clear hfa
  have HD := Lib.hid hds; clear hds
  have HS := Lib.hid hfs; clear hfs
  clear hblk
  go_enter Try.func14, Try.ntmps14
  go_upto_region 3 with fail
  go_cut [5] (fun s5 wx => ∃ x mf' mn' : Nat, s5 = Pa x ∧ Blk wx x 57 (dcells size mf' mn' (.slice none 0 0) false 0 false) ∧ MapI Try.prog 3 wx mf' (strO fl) nf ∧ MapI Try.prog 3 wx mn' (fun _ => none) 0 ∧
    Below w.heap.size w wx ∧ w.heap.size ≤ x ∧ w.heap.size ≤ mf' ∧ w.heap.size ≤ mn' ∧ mf' ≠ mn')
  case first =>
    have hba : Below w.heap.size w (w.alloc (.map #[] 0)) := (Below.refl _ _).alloc (Nat.le_refl _) _
    have e0 := cell_later hba c0
    have e1 := cell_later hba c1
    have e3 := cell_later hba c3
    have HBA := Lib.hid hba; clear hba
    go_region_held3 (fun w' => w'.cell? ⟨a, 0, none⟩ = some (.int .i64 size) ∧ w'.cell? ⟨a, 1, none⟩ = some (.map (some mf)) ∧ w'.cell? ⟨a, 3, none⟩ = some (.slice A op.length c)) (go_keep)
      (first | (go_at_call 27; refine (mp_clone (by first | exact HF.out.drew | exact (HF.out.alloc _).drew)).mono ?_; rintro e w1 ⟨rfl, hq, hk, hz⟩; have d0 : w1.cell? ⟨a, 0, none⟩ = some (.int .i64 size) := cell_later hk (by first | exact c0 | exact e0); have d1 : w1.cell? ⟨a, 1, none⟩ = some (.map (some mf)) := cell_later hk (by first | exact c1 | exact e1); have d3 : w1.cell? ⟨a, 3, none⟩ = some (.slice A op.length c) := cell_later hk (by first | exact c3 | exact e3); have HQ := Lib.hid hq; clear hq; have HK := Lib.hid hk; clear hk; have HZ := Lib.hid hz; clear hz))
    · have hz : w1.heap.size = w.heap.size + 1 := HZ.out
      have HZ2 := Lib.hid hz; clear hz
      go_wp2_with fail
      go_meet
      have hz := HZ2.out
      refine ⟨w1.heap.size + 1, w.heap.size, w1.heap.size, rfl, ?_, (HQ.out.alloc _).alloc _, (MapI.made _ _ w1).alloc _, ?_, by omega, Nat.le_refl _, by omega, by omega⟩
      · have hq := heap_alloc_new (w1.alloc (.map #[] 0)) (.cells #[.int .i64 size, .map (some w.heap.size), .map (some w1.heap.size), .slice none 0 0, .bool false, .int .i64 0, .bool false] 57)
        simpa [Blk, dcells] using hq
      · exact ((Below.trans (Below.drew (Below.refl _ _)) HK.out).alloc (by show w.heap.size ≤ _; omega) _).alloc (by show w.heap.size ≤ _; simp; omega) _
    · have hz : w1.heap.size = w.heap.size + 2 := by have := HZ.out; simp at this; omega
      have HZ2 := Lib.hid hz; clear hz
      go_wp2_with fail
      go_meet
      have hz := HZ2.out
      have hk1 : Below (w.alloc (.map #[] 0)).heap.size (w.alloc (.map #[] 0)) w1 := Below.trans (Below.drew (Below.refl _ _)) HK.out
      have hk : Below w.heap.size w w1 := Below.trans HBA.out (hk1.mono (by rw [World.size_alloc]; omega))
      have hm0 : MapI Try.prog 3 w1 w.heap.size (fun _ => none) 0 := (MapI.made Try.prog 3 w).keep (Keep.of_below hk1 (fun _ => False)) (fun h => h)
      refine ⟨w1.heap.size, w.heap.size + 1, w.heap.size, rfl, ?_, ?_, hm0.alloc _, hk.alloc (by rw [hz]; omega) _, by omega, by omega, Nat.le_refl _, by omega⟩
      · exact heap_alloc_new w1 _
      · have := HQ.out.alloc (.cells #[.int .i64 size, .map (some (w.heap.size + 1)), .map (some w.heap.size), .slice none 0 0, .bool false, .int .i64 0, .bool false] 57)
        simpa using this
  case rest =>
    obtain ⟨x, mf', mn', rfl, hb, hmf, hmn, hbl, hx1, hx2, hx3, hne⟩ := hcut
    have d3 : wc.cell? ⟨a, 3, none⟩ = some (.slice A op.length c) := cell_later hbl c3
    clear HF
    have HB := Lib.hid hb; clear hb
    have HF := Lib.hid hmf; clear hmf
    have HN := Lib.hid hmn; clear hmn
    have HL := Lib.hid hbl; clear hbl
    clear c0 c1 c3
    go_wp2_with fail
    go_loopw [30] (fun v30 wr => ∃ k nk : Nat, k ≤ op.length ∧ k ≤ nfa ∧ v30 = .int .i64 k ∧ Blk wr x 57 (dcells size mf' mn' (.slice none 0 0) false 0 false) ∧ MapI Try.prog 3 wr mf' (strO (crashFl fl (op.take k) fates)) nk ∧ nk ≤ nf + k ∧
      MapI Try.prog 3 wr mn' (fun _ => none) 0 ∧ Below w.heap.size w wr ∧ Keep (fun i => i = mf') wc wr) (fun v30 _ => op.length - (intOf v30).toNat)
    case atStart => exact ⟨0, nf, Nat.zero_le _, Nat.zero_le _, rfl, HB.out, HF.out, Nat.le_refl _, HN.out, HL.out, Keep.refl _ _⟩
    case round =>
      obtain ⟨k, nk, hk1, hk2, rfl, hb, hmf, hnk, hmn, hbl, hkp⟩ := hrel
      by_cases hlt : k < op.length
      · -- the write at hand, out of its row
        obtain ⟨g, cap, hv, _, hgl⟩ := HR.out.form (by omega)
        obtain ⟨hA, hcap⟩ : A = some ⟨g, 0, none⟩ ∧ c = cap := by injection hv with h1 _ h3; exact ⟨h1, h3⟩
        obtain ⟨hn, hd⟩ := wrs_at op k hlt
        have q0 := cell_later hbl ((HR.out.cells (g := g) (by rw [hv]; rfl)) (k * 2) _ hn)
        have q1 := cell_later hbl ((HR.out.cells (g := g) (by rw [hv]; rfl)) (k * 2 + 1) _ hd)
        rw [show (⟨g, 0, none⟩ : Addr).add (k * 2) = ⟨g, k * 2, none⟩ by unfold Addr.add; split <;> simp_all] at q0
        rw [show (⟨g, 0, none⟩ : Addr).add (k * 2 + 1) = ⟨g, k * 2 + 1, none⟩ by unfold Addr.add; split <;> simp_all] at q1
        obtain ⟨hd1, hd2, hds⟩ := HD.out _ (List.getElem_mem hlt)
        have hstep := crash_step fl op fates k hlt
        have hsz := crash_sizes fates (op.take k) (fun x hx => (HD.out x (List.mem_of_mem_take hx)).2.2) fl HS.out
        clear hv hcap hn hd
        subst hA
        have hxl := hb.lt
        generalize hon : (op[k]).1 = n at *
        generalize hos : (op[k]).2 = s at *
        by_cases hkf : k < nfa
        · obtain ⟨hfl, hfm, hfc⟩ := HA.out
          obtain ⟨ad, rfl, hcell⟩ := hfc (by omega)
          have qf := cell_later hbl (hcell k hkf)
          clear hfc
          replace hstep := hstep (by omega)
          generalize hfk : fates.getD k 0 = f at *
          clear hcell hfl
          generalize crashFl fl (op.take k) fates = flk at *
          have qf2 : ∀ o, (wr.alloc o).cell? (ad.add k) = some (.int .i64 f) := fun o => cell_later ((Below.refl _ wr).alloc (Nat.le_refl _) o) qf
          have HST := Lib.hid hstep; clear hstep
          have HON := Lib.hid hon; clear hon
          have HOS := Lib.hid hos; clear hos
          have HFK := Lib.hid hfk; clear hfk
          have HSZ := Lib.hid hsz; clear hsz
          have HB1 := Lib.hid hb; clear hb
          have HM1 := Lib.hid hmf; clear hmf
          have HN1 := Lib.hid hmn; clear hmn
          have HL1 := Lib.hid hbl; clear hbl
          have HK1 := Lib.hid hkp; clear hkp
          have HDS := Lib.hid hds; clear hds
          by_cases hf1 : f = 1
          · subst hf1
            go_wp2_with fail
            have hv2 : Blk (wr.alloc (.cells #[.int .i64 n, .string s] 61)) wr.heap.size 61 #[.int .i64 n, .string s] := heap_alloc_new wr _
            have hb2 := HB1.out.alloc (.cells #[.int .i64 n, .string s] 61)
            have hm2 := HM1.out.alloc (.cells #[.int .i64 n, .string s] 61)
            have hn2 := HN1.out.alloc (.cells #[.int .i64 n, .string s] 61)
            have hl2 := HL1.out.alloc HL1.out.size (.cells #[.int .i64 n, .string s] 61)
            have hk2 := HK1.out.alloc (.cells #[.int .i64 n, .string s] 61)
            have hvx : wr.heap.size ≠ mf' := fun e => by have := HM1.out.lt; omega
            have hxm : x ≠ mf' := fun e => hm2.blk_ne hb2 e.symm
            clear HB1 HM1 HN1 HL1 HK1 q0 q1 qf qf2
            generalize wr.alloc (.cells #[.int .i64 n, .string s] 61) = w2 at *
            generalize hvb : wr.heap.size = vb at *
            have HVB := Lib.hid hvb; clear hvb
            have cx : w2.cell? ⟨x, 1, none⟩ = some (.map (some mf')) := hb2.cell 1
            have cv0 : w2.cell? ⟨vb, 0, none⟩ = some (.int .i64 n) := hv2.cell 0
            have cv1 : w2.cell? ⟨vb, 1, none⟩ = some (.string s) := hv2.cell 1
            obtain ⟨w3, hrun, hm3, hk3, hz3⟩ := hm2.drew.store un_int Try.underlying54 (by unfold maxLen; omega) n (WalkArith.wf_i64 (by omega)) (.string s)
            have hb3 := hb2.drew.keep hk3 hxm
            have hv3 := hv2.drew.keep hk3 hvx
            have hn3 := hn2.drew.keep hk3 hne.symm
            have hl3 : Below w.heap.size w w3 := Below.trans hl2.drew (hk3.to_below (B := w.heap.size) hl2.size (fun i hi => by rw [hi]; exact hx2))
            have hkk3 : Keep (fun i => i = mf') wc w3 := hk2.drew.trans hk3 (fun i _ h => h)
            have cx3 : w3.cell? ⟨x, 1, none⟩ = some (.map (some mf')) := hb3.cell 1
            have cv03 : w3.cell? ⟨vb, 0, none⟩ = some (.int .i64 n) := hv3.cell 0
            have cv13 : w3.cell? ⟨vb, 1, none⟩ = some (.string s) := hv3.cell 1
            have HB3 := Lib.hid hb3; clear hb3
            have HM3 := Lib.hid hm3; clear hm3
            have HN3 := Lib.hid hn3; clear hn3
            have HL3 := Lib.hid hl3; clear hl3
            have HK3 := Lib.hid hkk3; clear hkk3
            clear hv3 hz3 hk3 hb2 hm2 hn2 hl2 hk2 hv2
            go_region_held3 (fun w' => w'.cell? ⟨x, 1, none⟩ = some (.map (some mf')) ∧ w'.cell? ⟨vb, 0, none⟩ = some (.int .i64 n) ∧ w'.cell? ⟨vb, 1, none⟩ = some (.string s)) (go_keep) (fail)
            go_wp2_with fail
            go_roundw
            case rel =>
              refine ⟨k + 1, _, by omega, by omega, by go_num, HB3.out, HM3.out.congr (fun j => ?_), by split <;> omega, HN3.out, HL3.out, HK3.out⟩
              rw [HST.out, crashStep, if_pos rfl, HON.out, HOS.out]
              exact strO_upd flk n s j
            case measure => simp [intOf]; omega
          · by_cases hf2 : 1 < f
            · have hf1' : (f == 1) = false := by simp; omega
              go_wp2_with fail
              have hv2 : Blk (wr.alloc (.cells #[.int .i64 n, .string s] 61)) wr.heap.size 61 #[.int .i64 n, .string s] := heap_alloc_new wr _
              have hb2 := HB1.out.alloc (.cells #[.int .i64 n, .string s] 61)
              have hm2 := HM1.out.alloc (.cells #[.int .i64 n, .string s] 61)
              have hn2 := HN1.out.alloc (.cells #[.int .i64 n, .string s] 61)
              have hl2 := HL1.out.alloc HL1.out.size (.cells #[.int .i64 n, .string s] 61)
              have hk2 := HK1.out.alloc (.cells #[.int .i64 n, .string s] 61)
              have hvx : wr.heap.size ≠ mf' := fun e => by have := HM1.out.lt; omega
              have hxm : x ≠ mf' := fun e => hm2.blk_ne hb2 e.symm
              clear HB1 HM1 HN1 HL1 HK1 q0 q1 qf qf2
              generalize wr.alloc (.cells #[.int .i64 n, .string s] 61) = w2 at *
              generalize hvb : wr.heap.size = vb at *
              have HVB := Lib.hid hvb; clear hvb
              have cx : w2.cell? ⟨x, 1, none⟩ = some (.map (some mf')) := hb2.cell 1
              have cv0 : w2.cell? ⟨vb, 0, none⟩ = some (.int .i64 n) := hv2.cell 0
              have cv1 : w2.cell? ⟨vb, 1, none⟩ = some (.string s) := hv2.cell 1
              have hlk := hm2.drew.look un_int Try.underlying54 (zero_str w2.drew) true n (WalkArith.wf_i64 (by omega))
              unfold strO at hlk
              have hwas : ∀ t, flk n = some t → t.size = 1024 := fun t => HSZ.out n t
              have HW := Lib.hid hwas; clear hwas
              cases hfn : flk n with
              | some t =>
                rw [hfn] at hlk
                simp only [Option.map_some, Option.getD_some, Option.isSome_some, if_true] at hlk
                have HTS := Lib.hid (HW.out t hfn)
                have HFN := Lib.hid hfn; clear hfn
                go_region_held3 (fun w' => w'.cell? ⟨x, 1, none⟩ = some (.map (some mf')) ∧ w'.cell? ⟨vb, 0, none⟩ = some (.int .i64 n) ∧ w'.cell? ⟨vb, 1, none⟩ = some (.string s)) (go_keep) (fail)
                clear hlk
                go_wp2_with fail
                have hq0 : 0 ≤ f % 1024 := by omega
                have hq1 : f % 1024 ≤ 1023 := by omega
                generalize hq : f % 1024 = q at *
                have HQ := Lib.hid hq; clear hq
                have hs1 := fun W => run_slice_string_h (P := Try.prog) W 9 s Try.underlying9 .i64 q hq0 (by have := HDS.out; omega)
                have hs2 := fun W => run_slice_string_l (P := Try.prog) W 9 t Try.underlying9 .i64 q hq0 (by have := HTS.out; omega)
                have hs3 : ∀ W, (Op.stringOp .add (s.extract 0 q.toNat) (t.extract q.toNat t.size)).run Try.prog W = .ok (.string (torn s t q.toNat)) W := fun W => run_string_add_sum W _ _ (by rw [ByteArray.size_extract, ByteArray.size_extract]; have := HTS.out; have := HDS.out; omega)
                obtain ⟨w3, hrun, hm3, hk3, hz3⟩ := hm2.drew.drew.store un_int Try.underlying54 (by unfold maxLen; omega) n (WalkArith.wf_i64 (by omega)) (.string (torn s t q.toNat))
                have hb3 := hb2.drew.drew.keep hk3 hxm
                have hv3 := hv2.drew.drew.keep hk3 hvx
                have hn3 := hn2.drew.drew.keep hk3 hne.symm
                have hl3 : Below w.heap.size w w3 := Below.trans hl2.drew.drew (hk3.to_below (B := w.heap.size) hl2.size (fun i hi => by rw [hi]; exact hx2))
                have hkk3 : Keep (fun i => i = mf') wc w3 := hk2.drew.drew.trans hk3 (fun i _ h => h)
                have cx3 : w3.cell? ⟨x, 1, none⟩ = some (.map (some mf')) := hb3.cell 1
                have cv03 : w3.cell? ⟨vb, 0, none⟩ = some (.int .i64 n) := hv3.cell 0
                have cv13 : w3.cell? ⟨vb, 1, none⟩ = some (.string s) := hv3.cell 1
                have HB3 := Lib.hid hb3; clear hb3
                have HM3 := Lib.hid hm3; clear hm3
                have HN3 := Lib.hid hn3; clear hn3
                have HL3 := Lib.hid hl3; clear hl3
                have HK3 := Lib.hid hkk3; clear hkk3
                clear hv3 hz3 hk3 hb2 hm2 hn2 hl2 hk2 hv2
                go_region_held3 (fun w' => w'.cell? ⟨x, 1, none⟩ = some (.map (some mf')) ∧ w'.cell? ⟨vb, 0, none⟩ = some (.int .i64 n) ∧ w'.cell? ⟨vb, 1, none⟩ = some (.string s)) (go_keep) (fail)
                clear hs1 hs2 hs3
                go_wp2_with fail
                go_roundw
                case rel =>
                  refine ⟨k + 1, _, by omega, by omega, by go_num, HB3.out, HM3.out.congr (fun j => ?_), by split <;> omega, HN3.out, HL3.out, HK3.out⟩
                  rw [HST.out, crashStep, if_neg hf1, if_pos hf2, HON.out, HOS.out, HFN.out, HQ.out]
                  exact strO_upd flk n _ j
                case measure => simp [intOf]; omega
              | none =>
                rw [hfn] at hlk
                simp only [Option.map_none, Option.getD_none, Option.isSome_none, if_true] at hlk
                have HFN := Lib.hid hfn; clear hfn
                go_region_held3 (fun w' => w'.cell? ⟨x, 1, none⟩ = some (.map (some mf')) ∧ w'.cell? ⟨vb, 0, none⟩ = some (.int .i64 n) ∧ w'.cell? ⟨vb, 1, none⟩ = some (.string s)) (go_keep) (fail)
                clear hlk
                go_wp2_with (go_at_call 25; refine (dk_zeros _).mono ?_; rintro e w4 ⟨rfl, hbw⟩; have HBW := Lib.hid hbw; clear hbw)
                have hb4 := HBW.out
                replace hb2 := hb2.drew.keep (Keep.of_below hb4 (fun _ => False)) (fun h => h)
                replace hm2 := hm2.drew.keep (Keep.of_below hb4 (fun _ => False)) (fun h => h)
                replace hv2 := hv2.drew.keep (Keep.of_below hb4 (fun _ => False)) (fun h => h)
                replace hn2 := hn2.drew.keep (Keep.of_below hb4 (fun _ => False)) (fun h => h)
                have hl4 : Below w.heap.size w w4 := Below.trans hl2.drew (hb4.mono hl2.size)
                replace hk2 := hk2.drew.below hb4
                clear hl2
                have hl2 := hl4
                clear cx cv0 cv1 hb4 hl4 HBW
                have cx : w4.cell? ⟨x, 1, none⟩ = some (.map (some mf')) := hb2.cell 1
                have cv0 : w4.cell? ⟨vb, 0, none⟩ = some (.int .i64 n) := hv2.cell 0
                have cv1 : w4.cell? ⟨vb, 1, none⟩ = some (.string s) := hv2.cell 1
                have hq0 : 0 ≤ f % 1024 := by omega
                have hq1 : f % 1024 ≤ 1023 := by omega
                generalize hq : f % 1024 = q at *
                have HQ := Lib.hid hq; clear hq
                have hs1 := fun W => run_slice_string_h (P := Try.prog) W 9 s Try.underlying9 .i64 q hq0 (by have := HDS.out; omega)
                have hs2 := fun W => run_slice_string_l (P := Try.prog) W 9 zb Try.underlying9 .i64 q hq0 (by have := zb_size; omega)
                have hs3 : ∀ W, (Op.stringOp .add (s.extract 0 q.toNat) (zb.extract q.toNat zb.size)).run Try.prog W = .ok (.string (torn s zb q.toNat)) W := fun W => run_string_add_sum W _ _ (by rw [ByteArray.size_extract, ByteArray.size_extract]; have := zb_size; have := HDS.out; omega)
                obtain ⟨w3, hrun, hm3, hk3, hz3⟩ := hm2.drew.store un_int Try.underlying54 (by unfold maxLen; omega) n (WalkArith.wf_i64 (by omega)) (.string (torn s zb q.toNat))
                have hb3 := hb2.drew.keep hk3 hxm
                have hv3 := hv2.drew.keep hk3 hvx
                have hn3 := hn2.drew.keep hk3 hne.symm
                have hl3 : Below w.heap.size w w3 := Below.trans hl2.drew (hk3.to_below (B := w.heap.size) hl2.size (fun i hi => by rw [hi]; exact hx2))
                have hkk3 : Keep (fun i => i = mf') wc w3 := hk2.drew.trans hk3 (fun i _ h => h)
                have cx3 : w3.cell? ⟨x, 1, none⟩ = some (.map (some mf')) := hb3.cell 1
                have cv03 : w3.cell? ⟨vb, 0, none⟩ = some (.int .i64 n) := hv3.cell 0
                have cv13 : w3.cell? ⟨vb, 1, none⟩ = some (.string s) := hv3.cell 1
                have HB3 := Lib.hid hb3; clear hb3
                have HM3 := Lib.hid hm3; clear hm3
                have HN3 := Lib.hid hn3; clear hn3
                have HL3 := Lib.hid hl3; clear hl3
                have HK3 := Lib.hid hkk3; clear hkk3
                clear hv3 hz3 hk3 hb2 hm2 hn2 hl2 hk2 hv2
                go_region_held3 (fun w' => w'.cell? ⟨x, 1, none⟩ = some (.map (some mf')) ∧ w'.cell? ⟨vb, 0, none⟩ = some (.int .i64 n) ∧ w'.cell? ⟨vb, 1, none⟩ = some (.string s)) (go_keep) (fail)
                clear hs1 hs2 hs3
                go_wp2_with fail
                go_roundw
                case rel =>
                  refine ⟨k + 1, _, by omega, by omega, by go_num, HB3.out, HM3.out.congr (fun j => ?_), by split <;> omega, HN3.out, HL3.out, HK3.out⟩
                  rw [HST.out, crashStep, if_neg hf1, if_pos hf2, HON.out, HOS.out, HFN.out, HQ.out]
                  exact strO_upd flk n _ j
                case measure => simp [intOf]; omega
            · have hf1' : (f == 1) = false := by simp; omega
              go_wp2_with fail
              go_roundw
              case rel =>
                refine ⟨k + 1, nk, by omega, by omega, by go_num, HB1.out.alloc _, ?_, by omega, HN1.out.alloc _, HL1.out.alloc HL1.out.size _, HK1.out.alloc _⟩
                rw [HST.out, crashStep, if_neg hf1, if_neg hf2]
                exact HM1.out.alloc _
              case measure => simp [intOf]; omega
        · -- no fate is left
          have hsz2 : crashFl fl (op.take k) fates = crashFl fl op fates := crash_end fl op fates k (by have := HA.out.1; omega)
          rw [hsz2] at hmf
          have H1 := Lib.hid hb; clear hb
          have H2 := Lib.hid hmf; clear hmf
          have H3 := Lib.hid hmn; clear hmn
          have H4 := Lib.hid hbl; clear hbl hkp
          clear hstep hsz hsz2 hon hos
          go_wp2
          go_ret
          exact ⟨x, mf', mn', nk, rfl, ((H1.out.alloc _)), H2.out.alloc _, H3.out.alloc _, H4.out.alloc H4.out.size _, hx1, hx2, hx3, hne⟩
      · have hko : k = op.length := by omega
        have hmf2 : MapI Try.prog 3 wr mf' (strO (crashFl fl op fates)) nk := by rw [hko, List.take_length] at hmf; exact hmf
        have H1 := Lib.hid hb; clear hb
        have H2 := Lib.hid hmf2; clear hmf2 hmf
        have H3 := Lib.hid hmn; clear hmn
        have H4 := Lib.hid hbl; clear hbl hkp
        clear hko
        go_wp2
        go_ret
        exact ⟨x, mf', mn', nk, rfl, H1.out, H2.out, H3.out, H4.out, hx1, hx2, hx3, hne⟩
end Go.Proofs.Ytbgcglojgohjdaa
