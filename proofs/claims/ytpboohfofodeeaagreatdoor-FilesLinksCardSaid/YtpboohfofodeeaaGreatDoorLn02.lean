/- files: paths in files that were changed (conditions: none). -/
import Derived.Test.YtpboohfofodeeaaGreatDoorLn01
namespace Go.Proofs.YtpboohfofodeeaaGreatDoor
open Go.RowKit Go.Maps
/-- The same inodes, of the same kinds and targets. -/
def Alike (fs fs1 : FS) : Prop := ∀ k a, fs.N k = some a → ∃ a1, fs1.N k = some a1 ∧ a1.nd.kind = a.nd.kind ∧ a1.nd.target = a.nd.target
theorem Alike.refl (fs : FS) : Alike fs fs := fun _ a h => ⟨a, h, rfl, rfl⟩
theorem Alike.trans {a b c : FS} (h : Alike a b) (k : Alike b c) : Alike a c := fun i x hx => by
  obtain ⟨y, h1, h2, h3⟩ := h i x hx
  obtain ⟨z, h4, h5, h6⟩ := k i y h1
  exact ⟨z, h4, h5.trans h2, h6.trans h3⟩
theorem alike_upd {fs : FS} {ino : Int} {a a' : NodeA} {G : SlotK → Option Int} {m : Int} (ha : fs.N ino = some a) (h1 : a'.nd.kind = a.nd.kind) (h2 : a'.nd.target = a.nd.target) : Alike fs ⟨m, upd fs.N ino a', G⟩ := fun k b e => by
  by_cases h : k = ino
  · subst h
    rw [ha] at e
    cases e
    exact ⟨a', updI_at, h1, h2⟩
  · exact ⟨b, (updI_ne h).trans e, rfl, rfl⟩
theorem aboveF_congr {G G1 : SlotK → Option Int} {d : Int} (h : ∀ s, G1 s = some d ↔ G s = some d) : aboveF G1 d = aboveF G d := by
  have e : (fun s => G1 s = some d) = fun s => G s = some d := funext fun s => propext (h s)
  unfold aboveF
  by_cases hx : ∃ s, G s = some d
  · have hy : ∃ s, G1 s = some d := by obtain ⟨s, hs⟩ := hx; exact ⟨s, (h s).2 hs⟩
    rw [dif_pos hx, dif_pos hy]
    congr 3
  · rw [dif_neg hx, dif_neg fun ⟨s, hs⟩ => hx ⟨s, (h s).1 hs⟩]
theorem slotAt_of {sl : SlotK} {d : Int} {nm : ByteArray} (h : sl.1 = (d, nm)) : slotAt d nm = some sl := by
  have hk : okSl (d, nm) := h ▸ sl.2
  unfold slotAt
  rw [dif_pos hk]
  exact congrArg some (Subtype.ext h.symm)
theorem slotAt_is {sl : SlotK} {d : Int} {nm : ByteArray} (h : slotAt d nm = some sl) : sl.1 = (d, nm) := by
  unfold slotAt at h
  split at h
  · cases h; rfl
  · cases h
theorem atG_slot {G : SlotK → Option Int} {sl : SlotK} {d : Int} {nm : ByteArray} (h : sl.1 = (d, nm)) : atG G d nm = G sl := by
  unfold atG
  rw [slotAt_of h]
  rfl
theorem atG_same {G G1 : SlotK → Option Int} {sl : SlotK} {d : Int} {nm : ByteArray} (h : sl.1 ≠ (d, nm)) (hG : ∀ s, s ≠ sl → G1 s = G s) : atG G1 d nm = atG G d nm := by
  unfold atG
  cases hs : slotAt d nm with
  | none => rfl
  | some s =>
    show G1 s = G s
    exact hG s fun e => h (e ▸ slotAt_is hs)
section
variable {fs fs1 : FS}
/-! ### the same names -/
def RelF (fs : FS) (fo fo1 : Bool) (r r1 : WR) : Prop := r.code = 0 → (fo = fo1 ∨ ∀ a, fs.N r.ino = some a → a.nd.kind ≠ 3) → r1 = r
theorem walkIn_same (hR : RightFS fs) (hG : fs1.G = fs.G) (hA : Alike fs fs1) {fo fo1 : Bool} (hfo : fo = true → fo1 = true) {K K1 : ByteArray → List ByteArray → Int → WR} (hK : ∀ t rest dir, isDir fs dir → RelF fs fo fo1 (K t rest dir) (K1 t rest dir)) :
    ∀ (l : List ByteArray) (dir : Int), isDir fs dir → RelF fs fo fo1 (walkIn fs fo K l dir) (walkIn fs1 fo1 K1 l dir)
  | [], dir, hd => by
    rw [walkIn, walkIn]
    exact fun _ _ => rfl
  | nm :: rest, dir, hd => by
    by_cases hup : (nm.toList == [46, 46]) = true
    · rw [walkIn_up hup, walkIn_up hup, hG]
      exact walkIn_same hR hG hA hfo hK rest _ (above_dir hR hd)
    · cases hg : atG fs.G dir nm with
      | none =>
        have hg1 : atG fs1.G dir nm = none := by rw [hG]; exact hg
        by_cases h0 : rest.length = 0
        · rw [walkIn_last hup hg h0, walkIn_last hup hg1 h0]
          exact fun _ _ => rfl
        · rw [walkIn_none hup hg h0]
          exact fun h => absurd h (by decide)
      | some ino =>
        have hg1 : atG fs1.G dir nm = some ino := by rw [hG]; exact hg
        obtain ⟨s, hs, hgs⟩ := slotAt_some hg
        obtain ⟨a, ha⟩ : ∃ a, fs.N ino = some a := Option.ne_none_iff_exists'.1 (hR.named _ _ hgs).2.2.1
        obtain ⟨a1, ha1, hk1, ht1⟩ := hA ino a ha
        by_cases hf : a.nd.kind = 3 ∧ (rest.length ≠ 0 ∨ fo = true)
        · have hf1 : rest.length ≠ 0 ∨ fo1 = true := hf.2.imp id hfo
          rw [walkIn_link hup hg ha hf.1 hf.2, walkIn_link hup hg1 ha1 (by rw [hk1]; exact hf.1) hf1, ht1]
          exact hK _ _ _ hd
        · by_cases h0 : rest.length = 0
          · rw [walkIn_is hup hg ha hf h0]
            intro _ hk
            rw [walkIn_is hup hg1 ha1 ?_ h0]
            rintro ⟨h3, h4⟩
            rw [hk1] at h3
            rcases hk with rfl | hk
            · exact hf ⟨h3, h4⟩
            · exact hk a ha h3
          · by_cases h2 : a.nd.kind = 2
            · rw [walkIn_in hup hg ha h0 h2, walkIn_in hup hg1 ha1 h0 (by rw [hk1]; exact h2)]
              exact walkIn_same hR hG hA hfo hK rest _ ⟨a, ha, h2⟩
            · rw [walkIn_no hup hg ha (fun h3 => hf ⟨h3, .inl h0⟩) h0 h2]
              exact fun h => absurd h (by decide)
theorem walkK_same (hR : RightFS fs) (hG : fs1.G = fs.G) (hA : Alike fs fs1) {fo fo1 : Bool} (hfo : fo = true → fo1 = true) : ∀ (k : Nat) (t : ByteArray) (rest : List ByteArray) (dir : Int), isDir fs dir → RelF fs fo fo1 (walkK fs fo k t rest dir) (walkK fs1 fo1 k t rest dir)
  | 0, _, _, _, _ => fun h => absurd h (by rw [walkK]; exact (by decide : ¬ (wrE 166).code = 0))
  | k + 1, t, rest, dir, hd => by
    rw [walkK, walkK]
    split
    · exact fun h => absurd h (by decide)
    · refine walkIn_same hR hG hA hfo (walkK_same hR hG hA hfo k) _ _ ?_
      split
      · exact hR.rooted.2
      · exact hd
/-- A path that leads to no symlink leads there, followed or not, where the names are the same. -/
theorem walk_same (hR : RightFS fs) (hG : fs1.G = fs.G) (hA : Alike fs fs1) {fo fo1 : Bool} (hfo : fo = true → fo1 = true) {p : ByteArray} (h0 : (walkS fs p fo).code = 0) (hk : fo = fo1 ∨ ∀ a, fs.N (walkS fs p fo).ino = some a → a.nd.kind ≠ 3) : walkS fs1 p fo1 = walkS fs p fo :=
  walkIn_same hR hG hA hfo (walkK_same hR hG hA hfo 8) _ _ hR.rooted.2 h0 hk
/-! ### one name more, of a file -/
def putR (sl : SlotK) (ino : Int) (r : WR) : WR := if r.ino = 0 ∧ (r.dir, r.name) = sl.1 then ⟨r.dir, r.name, ino, 0⟩ else r
def RelP (sl : SlotK) (ino : Int) (r r1 : WR) : Prop := r.code = 0 → r1 = putR sl ino r
structure PutIn (fs fs1 : FS) (sl : SlotK) (ino : Int) : Prop where
  none : fs.G sl = none
  at_ : fs1.G sl = some ino
  ne : ∀ s, s ≠ sl → fs1.G s = fs.G s
  alike : Alike fs fs1
  file : ∃ a, fs.N ino = some a ∧ a.nd.kind ≠ 2
theorem PutIn.above {sl : SlotK} {ino : Int} (h : PutIn fs fs1 sl ino) {d : Int} (hd : isDir fs d) : aboveF fs1.G d = aboveF fs.G d := by
  obtain ⟨a, ha, hk⟩ := h.file
  obtain ⟨b, hb, hk2⟩ := hd
  refine aboveF_congr fun s => ?_
  by_cases e : s = sl
  · subst e
    rw [h.at_, h.none]
    constructor
    · intro h'
      cases h'
      rw [ha] at hb
      cases hb
      omega
    · intro h'; cases h'
  · rw [h.ne s e]
theorem walkIn_put {sl : SlotK} {ino : Int} (hC : Canon fs) (hR : RightFS fs) (h : PutIn fs fs1 sl ino) {fo : Bool} (hfk : fo = true → ∀ a, fs.N ino = some a → a.nd.kind ≠ 3) {K K1 : ByteArray → List ByteArray → Int → WR} (hK : ∀ t rest dir, isDir fs dir → RelP sl ino (K t rest dir) (K1 t rest dir)) :
    ∀ (l : List ByteArray) (dir : Int), isDir fs dir → RelP sl ino (walkIn fs fo K l dir) (walkIn fs1 fo K1 l dir)
  | [], dir, hd => by
    rw [walkIn, walkIn]
    intro _
    obtain ⟨a, ha, _⟩ := hd
    have := hC.pos ha
    unfold putR
    rw [if_neg]
    rintro ⟨h1, _⟩
    have h1 : dir = 0 := h1
    omega
  | nm :: rest, dir, hd => by
    by_cases hup : (nm.toList == [46, 46]) = true
    · rw [walkIn_up hup, walkIn_up hup, h.above hd]
      exact walkIn_put hC hR h hfk hK rest _ (above_dir hR hd)
    · by_cases hsl : sl.1 = (dir, nm)
      · have hg : atG fs.G dir nm = none := by rw [atG_slot hsl]; exact h.none
        have hg1 : atG fs1.G dir nm = some ino := by rw [atG_slot hsl]; exact h.at_
        obtain ⟨a, ha, hk⟩ := h.file
        obtain ⟨a1, ha1, hk1, _⟩ := h.alike ino a ha
        by_cases h0 : rest.length = 0
        · rw [walkIn_last hup hg h0, walkIn_is hup hg1 ha1 (fun x => by
            rcases x.2 with x2 | x2
            · exact x2 h0
            · exact hfk x2 a ha (hk1 ▸ x.1)) h0]
          intro _
          unfold putR
          rw [if_pos ⟨rfl, hsl.symm⟩]
        · rw [walkIn_none hup hg h0]
          exact fun h => absurd h (by decide)
      · have hgg := atG_same hsl h.ne
        cases hg : atG fs.G dir nm with
        | none =>
          have hg1 : atG fs1.G dir nm = none := by rw [hgg]; exact hg
          by_cases h0 : rest.length = 0
          · rw [walkIn_last hup hg h0, walkIn_last hup hg1 h0]
            intro _
            unfold putR
            rw [if_neg]
            exact fun x => hsl x.2.symm
          · rw [walkIn_none hup hg h0]
            exact fun h => absurd h (by decide)
        | some i =>
          have hg1 : atG fs1.G dir nm = some i := by rw [hgg]; exact hg
          obtain ⟨s, hs, hgs⟩ := slotAt_some hg
          obtain ⟨a, ha⟩ : ∃ a, fs.N i = some a := Option.ne_none_iff_exists'.1 (hR.named _ _ hgs).2.2.1
          obtain ⟨a1, ha1, hk1, ht1⟩ := h.alike i a ha
          by_cases hf : a.nd.kind = 3 ∧ (rest.length ≠ 0 ∨ fo = true)
          · rw [walkIn_link hup hg ha hf.1 hf.2, walkIn_link hup hg1 ha1 (by rw [hk1]; exact hf.1) hf.2, ht1]
            exact hK _ _ _ hd
          · have hf1 : ¬ (a1.nd.kind = 3 ∧ (rest.length ≠ 0 ∨ fo = true)) := by rw [hk1]; exact hf
            by_cases h0 : rest.length = 0
            · rw [walkIn_is hup hg ha hf h0, walkIn_is hup hg1 ha1 hf1 h0]
              intro _
              unfold putR
              rw [if_neg]
              exact fun x => hsl x.2.symm
            · by_cases h2 : a.nd.kind = 2
              · rw [walkIn_in hup hg ha h0 h2, walkIn_in hup hg1 ha1 h0 (by rw [hk1]; exact h2)]
                exact walkIn_put hC hR h hfk hK rest _ ⟨a, ha, h2⟩
              · rw [walkIn_no hup hg ha (fun h3 => hf ⟨h3, .inl h0⟩) h0 h2]
                exact fun h => absurd h (by decide)
theorem walkK_put {sl : SlotK} {ino : Int} (hC : Canon fs) (hR : RightFS fs) (h : PutIn fs fs1 sl ino) {fo : Bool} (hfk : fo = true → ∀ a, fs.N ino = some a → a.nd.kind ≠ 3) : ∀ (k : Nat) (t : ByteArray) (rest : List ByteArray) (dir : Int), isDir fs dir → RelP sl ino (walkK fs fo k t rest dir) (walkK fs1 fo k t rest dir)
  | 0, _, _, _, _ => fun h => absurd h (by rw [walkK]; exact (by decide : ¬ (wrE 166).code = 0))
  | k + 1, t, rest, dir, hd => by
    rw [walkK, walkK]
    split
    · exact fun h => absurd h (by decide)
    · refine walkIn_put hC hR h hfk (walkK_put hC hR h hfk k) _ _ ?_
      split
      · exact hR.rooted.2
      · exact hd
theorem walk_put {sl : SlotK} {ino : Int} (hC : Canon fs) (hR : RightFS fs) (h : PutIn fs fs1 sl ino) {fo : Bool} (hfk : fo = true → ∀ a, fs.N ino = some a → a.nd.kind ≠ 3) {p : ByteArray} (h0 : (walkS fs p fo).code = 0) : walkS fs1 p fo = putR sl ino (walkS fs p fo) :=
  walkIn_put hC hR h hfk (walkK_put hC hR h hfk 8) _ _ hR.rooted.2 h0
/-! ### one name less, of a file -/
def RelM (sl : SlotK) (r r1 : WR) : Prop := r.code = 0 → (r.dir, r.name) ≠ sl.1 → r1 = r
structure OffIn (fs fs1 : FS) (sl : SlotK) (ino : Int) : Prop where
  at_ : fs.G sl = some ino
  none : fs1.G sl = none
  ne : ∀ s, s ≠ sl → fs1.G s = fs.G s
  alike : Alike fs fs1
  file : ∃ a, fs.N ino = some a ∧ a.nd.kind = 1
theorem OffIn.above {sl : SlotK} {ino : Int} (h : OffIn fs fs1 sl ino) {d : Int} (hd : isDir fs d) : aboveF fs1.G d = aboveF fs.G d := by
  obtain ⟨a, ha, hk⟩ := h.file
  obtain ⟨b, hb, hk2⟩ := hd
  refine aboveF_congr fun s => ?_
  by_cases e : s = sl
  · subst e
    rw [h.at_, h.none]
    constructor
    · intro h'; cases h'
    · intro h'
      cases h'
      rw [ha] at hb
      cases hb
      omega
  · rw [h.ne s e]
theorem walkIn_off {sl : SlotK} {ino : Int} (hR : RightFS fs) (h : OffIn fs fs1 sl ino) {fo : Bool} {K K1 : ByteArray → List ByteArray → Int → WR} (hK : ∀ t rest dir, isDir fs dir → RelM sl (K t rest dir) (K1 t rest dir)) :
    ∀ (l : List ByteArray) (dir : Int), isDir fs dir → RelM sl (walkIn fs fo K l dir) (walkIn fs1 fo K1 l dir)
  | [], dir, hd => by
    rw [walkIn, walkIn]
    exact fun _ _ => rfl
  | nm :: rest, dir, hd => by
    by_cases hup : (nm.toList == [46, 46]) = true
    · rw [walkIn_up hup, walkIn_up hup, h.above hd]
      exact walkIn_off hR h hK rest _ (above_dir hR hd)
    · by_cases hsl : sl.1 = (dir, nm)
      · have hg : atG fs.G dir nm = some ino := by rw [atG_slot hsl]; exact h.at_
        obtain ⟨a, ha, hk⟩ := h.file
        by_cases h0 : rest.length = 0
        · rw [walkIn_is hup hg ha (fun x => by omega) h0]
          exact fun _ hn => absurd hsl.symm hn
        · rw [walkIn_no hup hg ha (by omega) h0 (by omega)]
          exact fun h => absurd h (by decide)
      · have hgg := atG_same hsl h.ne
        cases hg : atG fs.G dir nm with
        | none =>
          have hg1 : atG fs1.G dir nm = none := by rw [hgg]; exact hg
          by_cases h0 : rest.length = 0
          · rw [walkIn_last hup hg h0, walkIn_last hup hg1 h0]
            exact fun _ _ => rfl
          · rw [walkIn_none hup hg h0]
            exact fun h => absurd h (by decide)
        | some i =>
          have hg1 : atG fs1.G dir nm = some i := by rw [hgg]; exact hg
          obtain ⟨s, hs, hgs⟩ := slotAt_some hg
          obtain ⟨a, ha⟩ : ∃ a, fs.N i = some a := Option.ne_none_iff_exists'.1 (hR.named _ _ hgs).2.2.1
          obtain ⟨a1, ha1, hk1, ht1⟩ := h.alike i a ha
          by_cases hf : a.nd.kind = 3 ∧ (rest.length ≠ 0 ∨ fo = true)
          · rw [walkIn_link hup hg ha hf.1 hf.2, walkIn_link hup hg1 ha1 (by rw [hk1]; exact hf.1) hf.2, ht1]
            exact hK _ _ _ hd
          · have hf1 : ¬ (a1.nd.kind = 3 ∧ (rest.length ≠ 0 ∨ fo = true)) := by rw [hk1]; exact hf
            by_cases h0 : rest.length = 0
            · rw [walkIn_is hup hg ha hf h0, walkIn_is hup hg1 ha1 hf1 h0]
              exact fun _ _ => rfl
            · by_cases h2 : a.nd.kind = 2
              · rw [walkIn_in hup hg ha h0 h2, walkIn_in hup hg1 ha1 h0 (by rw [hk1]; exact h2)]
                exact walkIn_off hR h hK rest _ ⟨a, ha, h2⟩
              · rw [walkIn_no hup hg ha (fun h3 => hf ⟨h3, .inl h0⟩) h0 h2]
                exact fun h => absurd h (by decide)
theorem walkK_off {sl : SlotK} {ino : Int} (hR : RightFS fs) (h : OffIn fs fs1 sl ino) {fo : Bool} : ∀ (k : Nat) (t : ByteArray) (rest : List ByteArray) (dir : Int), isDir fs dir → RelM sl (walkK fs fo k t rest dir) (walkK fs1 fo k t rest dir)
  | 0, _, _, _, _ => fun h => absurd h (by rw [walkK]; exact (by decide : ¬ (wrE 166).code = 0))
  | k + 1, t, rest, dir, hd => by
    rw [walkK, walkK]
    split
    · exact fun h => absurd h (by decide)
    · refine walkIn_off hR h (walkK_off hR h k) _ _ ?_
      split
      · exact hR.rooted.2
      · exact hd
theorem walk_off {sl : SlotK} {ino : Int} (hR : RightFS fs) (h : OffIn fs fs1 sl ino) {fo : Bool} {p : ByteArray} (h0 : (walkS fs p fo).code = 0) (hn : ((walkS fs p fo).dir, (walkS fs p fo).name) ≠ sl.1) : walkS fs1 p fo = walkS fs p fo :=
  walkIn_off hR h (walkK_off hR h 8) _ _ hR.rooted.2 h0 hn
end
end Go.Proofs.YtpboohfofodeeaaGreatDoor
/- files: what operations leave, if they were done, is right (conditions: none). -/
namespace Go.Proofs.YtpboohfofodeeaaGreatDoor
open Go.RowKit Go.Maps
theorem remK_at {κ α : Type} {f : κ → Option α} {k : κ} : remK f k k = none := by unfold remK; rw [if_pos rfl]
theorem remK_ne {κ α : Type} {f : κ → Option α} {k x : κ} (h : x ≠ k) : remK f k x = f x := by unfold remK; rw [if_neg h]
theorem rem_ne {α : Type} {f : Int → Option α} {k x : Int} (h : x ≠ k) : rem f k x = f x := by unfold rem; rw [if_neg h]
section
variable {G G' : SlotK → Option Int} {H H' : Int → List SlotK} {k : Int} {s : SlotK}
theorem len_less (h : SlotsP G H) (h' : SlotsP G' H') (hs : G' s ≠ some k) (e : ∀ x, G x = some k ↔ x = s ∨ G' x = some k) : (H k).length = (H' k).length + 1 := len_more h' h hs e
theorem slots_one (h : SlotsP G H) (h' : SlotsP G' H') (e : ∀ x, G x = some k ↔ G' x = some k) : H' k = H k := by
  have go : ∀ {l l' : List SlotK}, l.Pairwise slLt → l'.Pairwise slLt → (∀ x, x ∈ l ↔ x ∈ l') → l = l' := by
    intro l
    induction l with
    | nil =>
      intro l' _ _ hm
      cases l' with
      | nil => rfl
      | cons y t => have := (hm y).2 (by simp); simp at this
    | cons x r ih =>
      intro l' h1 h2 hm
      cases l' with
      | nil => have := (hm x).1 (by simp); simp at this
      | cons y t =>
        obtain ⟨h3, h4⟩ := List.pairwise_cons.1 h1
        obtain ⟨h5, h6⟩ := List.pairwise_cons.1 h2
        have e : x = y := by
          rcases List.mem_cons.1 ((hm x).1 (by simp)) with e | hx
          · exact e
          · rcases List.mem_cons.1 ((hm y).2 (by simp)) with e | hy
            · exact e.symm
            · exact absurd (sl_trans (h5 x hx) (h3 y hy)) (sl_irrefl _)
        subst e
        rw [ih h4 h6 fun z => ?_]
        constructor
        · intro hz
          rcases List.mem_cons.1 ((hm z).1 (by simp [hz])) with rfl | hz'
          · exact absurd (h3 z hz) (sl_irrefl _)
          · exact hz'
        · intro hz
          rcases List.mem_cons.1 ((hm z).2 (by simp [hz])) with rfl | hz'
          · exact absurd (h5 z hz) (sl_irrefl _)
          · exact hz'
  exact go (h' k).2.2 (h k).2.2 fun x => (((h' k).2.1 x).trans (e x).symm).trans ((h k).2.1 x).symm
theorem pathK_congr (h : SlotsP G H) (he : ∀ x, G x ≠ none → H' x.1.1 = H x.1.1) : ∀ (f : Nat) (x : SlotK) (p : ByteArray), G x ≠ none → pathK H' f x p = pathK H f x p
  | 0, x, p, _ => rfl
  | f + 1, x, p, hx => by
    unfold pathK
    rw [he x hx]
    split
    · rfl
    · cases hH : H x.1.1 with
      | nil => rfl
      | cons a t =>
        simp only
        exact pathK_congr h he f a _ (by rw [((h x.1.1).2.1 a).1 (by rw [hH]; simp)]; exact fun e => by cases e)
end
section
variable {fs : FS} {ino : Int} {a a' : NodeA}
theorem right_node (h : RightFS fs) (ha : fs.N ino = some a) (h1 : a'.nd.kind = a.nd.kind) (h2 : a'.nd.links = a.nd.links) (h3 : nodeOk a') : RightFS { fs with N := upd fs.N ino a' } := by
  have hold : ∀ k b, fs.N k = some b → ∃ c, upd fs.N ino a' k = some c ∧ c.nd.kind = b.nd.kind := fun k b e => by
    by_cases hk : k = ino
    · subst hk
      rw [ha] at e
      cases e
      exact ⟨a', updI_at, h1⟩
    · exact ⟨b, (updI_ne hk).trans e, rfl⟩
  refine ⟨⟨fun k b e => ?_, ?_⟩, fun s i e => ?_, ?_, fun k b e => ?_⟩
  · rcases updI_some (show upd fs.N ino a' k = some b from e) with ⟨rfl, _⟩ | ⟨_, e⟩
    · exact h.rooted.1 _ a ha
    · exact h.rooted.1 k b e
  · obtain ⟨b, hb, hk⟩ := h.rooted.2
    obtain ⟨c, hc, hk2⟩ := hold 1 b hb
    exact ⟨c, hc, hk2.trans hk⟩
  · obtain ⟨⟨b, hb, hk⟩, h4, h5, h6⟩ := h.named s i e
    obtain ⟨c, hc, hk2⟩ := hold _ b hb
    obtain ⟨d, hd⟩ := Option.ne_none_iff_exists'.1 h5
    obtain ⟨x, hx, _⟩ := hold _ d hd
    exact ⟨⟨c, hc, hk2.trans hk⟩, h4, (by show upd fs.N ino a' i ≠ none; rw [hx]; exact fun h => (by cases h)), h6⟩
  · obtain ⟨H, hH, hL⟩ := h.linked
    refine ⟨H, hH, fun k b e => ?_⟩
    rcases updI_some (show upd fs.N ino a' k = some b from e) with ⟨rfl, rfl⟩ | ⟨_, e⟩
    · exact ⟨fun hk => by rw [h2]; exact (hL _ a ha).1 hk, (hL _ a ha).2⟩
    · exact hL k b e
  · rcases updI_some (show upd fs.N ino a' k = some b from e) with ⟨rfl, rfl⟩ | ⟨_, e⟩
    · exact h3
    · exact h.filled k b e
theorem dir_ne (h : RightFS fs) (ha : fs.N ino = some a) (hk : a.nd.kind ≠ 2) : ∀ s i, fs.G s = some i → s.1.1 ≠ ino := fun s i e hs => by
  obtain ⟨⟨b, hb, hk2⟩, _⟩ := h.named s i e
  rw [hs, ha] at hb
  cases hb
  exact hk hk2
theorem links_one (h : RightFS fs) (ha : fs.N ino = some a) (hl : a.nd.links = 1) {s t : SlotK} (hs : fs.G s = some ino) (ht : fs.G t = some ino) : s = t := by
  obtain ⟨H, hH, hL⟩ := h.linked
  have h1 := (hL ino a ha).1 (h.named s ino hs).2.1
  rw [hl] at h1
  obtain ⟨x, hx⟩ := List.length_eq_one_iff.1 (by omega : (H ino).length = 1)
  have hs' := ((hH ino).2.1 s).2 hs
  have ht' := ((hH ino).2.1 t).2 ht
  rw [hx] at hs' ht'
  rw [List.mem_singleton.1 hs', List.mem_singleton.1 ht']
theorem away_N (fs : FS) (s : SlotK) (ino : Int) (a : NodeA) {k : Int} (hk : k ≠ ino) : (awayS fs s ino a).N k = fs.N k := by
  unfold awayS
  simp only
  split
  · exact rem_ne hk
  · exact updI_ne hk
theorem away_at {fs : FS} {s : SlotK} {ino : Int} {a b : NodeA} (h : (awayS fs s ino a).N ino = some b) : a.nd.links ≠ 1 ∧ b = { a with nd := { a.nd with links := a.nd.links - 1 } } := by
  unfold awayS at h
  simp only at h
  by_cases h1 : a.nd.links = 1
  · rw [if_pos h1] at h
    unfold rem at h
    rw [if_pos rfl] at h
    cases h
  · rw [if_neg h1, updI_at] at h
    exact ⟨h1, (Option.some.inj h).symm⟩
theorem away_some {fs : FS} {s : SlotK} {ino k : Int} {a b : NodeA} (h : (awayS fs s ino a).N k = some b) : (k = ino ∧ a.nd.links ≠ 1 ∧ b = { a with nd := { a.nd with links := a.nd.links - 1 } }) ∨ (k ≠ ino ∧ fs.N k = some b) := by
  by_cases hk : k = ino
  · subst hk
    exact .inl ⟨rfl, away_at h⟩
  · rw [away_N fs s ino a hk] at h
    exact .inr ⟨hk, h⟩
/-- Something is taken away that nothing stands in. -/
theorem right_away (h : RightFS fs) {sl : SlotK} (hg : fs.G sl = some ino) (ha : fs.N ino = some a) (hE : ∀ s i, fs.G s = some i → s.1.1 ≠ ino) : RightFS (awayS fs sl ino a) := by
  obtain ⟨H, hH, hL⟩ := h.linked
  have hn1 : ino ≠ 1 := (h.named sl ino hg).2.1
  have hG : (awayS fs sl ino a).G = remK fs.G sl := rfl
  obtain ⟨H', hH'⟩ := slots_make (G := (awayS fs sl ino a).G) fun i => ⟨H i, fun s e => ((hH i).2.1 s).2 (remK_ok (by rw [hG] at e; exact e))⟩
  have hne : ∀ k, k ≠ ino → ∀ x, fs.G x = some k ↔ (awayS fs sl ino a).G x = some k := fun k hk x => by
    rw [hG]
    by_cases hx : x = sl
    · subst hx
      rw [hg, remK_at]
      constructor
      · intro e; cases e; exact absurd rfl hk
      · intro e; cases e
    · rw [remK_ne hx]
  refine ⟨⟨fun k b e => ?_, ?_⟩, fun s i e => ?_, ⟨H', hH', fun k b e => ⟨fun hk1 => ?_, fun s hs => ?_⟩⟩, fun k b e => ?_⟩
  · rcases away_some e with ⟨rfl, _⟩ | ⟨_, e⟩
    · exact h.rooted.1 _ a ha
    · exact h.rooted.1 k b e
  · obtain ⟨b, hb, hk⟩ := h.rooted.2
    exact ⟨b, by rw [away_N _ _ _ _ (fun x => hn1 x.symm)]; exact hb, hk⟩
  · have e0 : fs.G s = some i := remK_ok (by rw [hG] at e; exact e)
    have hsl : s ≠ sl := fun x => by rw [x, hG, remK_at] at e; cases e
    obtain ⟨⟨b, hb, hk⟩, h4, h5, h6⟩ := h.named s i e0
    refine ⟨⟨b, by rw [away_N _ _ _ _ (hE s i e0)]; exact hb, hk⟩, h4, ?_, h6⟩
    by_cases hi : i = ino
    · subst hi
      by_cases hl : a.nd.links = 1
      · exact absurd (links_one h ha hl e0 hg) hsl
      · unfold awayS
        simp only
        rw [if_neg hl, updI_at]
        exact fun x => by cases x
    · rw [away_N _ _ _ _ hi]; exact h5
  · rcases away_some e with ⟨rfl, hl, rfl⟩ | ⟨hk, e⟩
    · have h1 := (hL _ a ha).1 hk1
      have h2 := len_less (k := k) (s := sl) hH hH' (by rw [hG, remK_at]; exact fun x => by cases x) (fun x => by
        rw [hG]
        by_cases hx : x = sl
        · subst hx
          rw [hg, remK_at]; simp
        · rw [remK_ne hx]; simp [hx])
      show ((H' k).length : Int) = a.nd.links - 1
      omega
    · rw [slots_one hH hH' (hne k hk)]
      exact (hL k b e).1 hk1
  · have e0 : fs.G s = some k := remK_ok (by have := ((hH' k).2.1 s).1 hs; rw [hG] at this; exact this)
    obtain ⟨c, hc⟩ := Option.ne_none_iff_exists'.1 (h.named s k e0).2.2.1
    obtain ⟨p, hp, hz⟩ := (hL k c hc).2 s (((hH k).2.1 s).2 e0)
    refine ⟨p, ?_, hz⟩
    rw [← hp]
    refine pathK_congr hH (fun x hx => ?_) 31 s _ (by rw [e0]; exact fun x => by cases x)
    obtain ⟨i, hi⟩ := Option.ne_none_iff_exists'.1 hx
    exact slots_one hH hH' (hne _ (hE x i hi))
  · rcases away_some e with ⟨rfl, hl, rfl⟩ | ⟨hk, e⟩
    · exact h.filled _ a ha
    · exact h.filled k b e
end
/-- What stands at a spot that has a name. -/
theorem Wok.stands {fs : FS} {r : WR} (h : Wok fs r) (h0 : r.code = 0) (hn : r.name.toList.isEmpty = false) : atG fs.G r.dir r.name = none ∧ r.ino = 0 ∨ atG fs.G r.dir r.name = some r.ino := by
  rcases h.2 h0 with ⟨h1, _⟩ | ⟨_, _, _, h4⟩
  · rw [h1, toList_eq] at hn
    exact absurd hn (by decide)
  · exact h4
theorem Wok.free {fs : FS} (hC : Canon fs) (hR : RightFS fs) {r : WR} (h : Wok fs r) (h0 : r.code = 0) (hi : r.ino = 0) : atG fs.G r.dir r.name = none := by
  rcases h.2 h0 with ⟨_, _, h3⟩ | ⟨_, _, _, ⟨h4, _⟩ | h4⟩
  · obtain ⟨a, ha, _⟩ := h3.dir
    have := hC.pos ha
    omega
  · exact h4
  · obtain ⟨s, _, hs⟩ := slotAt_some h4
    obtain ⟨a, ha⟩ := Option.ne_none_iff_exists'.1 (hR.named s _ hs).2.2.1
    have := hC.pos ha
    omega
/-- The slot of what stands somewhere. -/
theorem AtR.slot_at {fs : FS} {r : WR} {sl : SlotK} {a : NodeA} (h : AtR fs r sl a) (hw : Wok fs r) (h0 : r.code = 0) (hn : sl.1.2.toList.isEmpty = false) : fs.G sl = some r.ino := by
  have hn' : r.name.toList.isEmpty = false := by rw [h.slot] at hn; exact hn
  rcases hw.stands h0 hn' with ⟨_, h1⟩ | h1
  · exact absurd h1 h.ino
  · rw [atG_slot h.slot] at h1
    exact h1
theorem Wok.slot_file {fs : FS} {r : WR} {a : NodeA} (hC : Canon fs) (h : Wok fs r) (h0 : r.code = 0) (ha : fs.N r.ino = some a) (hk : a.nd.kind ≠ 2) : atG fs.G r.dir r.name = some r.ino := by
  rcases h.2 h0 with ⟨_, _, h3⟩ | ⟨_, _, _, ⟨_, h4⟩ | h4⟩
  · obtain ⟨b, hb, hk2⟩ := h3.dir
    rw [ha] at hb
    cases hb
    exact absurd hk2 hk
  · have := hC.pos ha
    omega
  · exact h4
theorem LinkR.right {fs fs' : FS} {ino : Int} {a : NodeA} {tp : ByteArray} (hC : Canon fs) (hR : RightFS fs) (ha : fs.N ino = some a) (h : LinkR fs ino a tp 0 fs') : RightFS fs' := by
  rcases h with ⟨_, h1, _⟩ | ⟨_, h1, h2, _⟩ | ⟨_, _, _, h1, _⟩ | ⟨_, _, _, _, h1, _⟩ | ⟨hk, h1, h2, h3, sl, h4, rfl, hl⟩
  · cases h1
  · exact absurd h2.symm h1
  · cases h1
  · cases h1
  · have hl : ¬ longS (putG { fs with N := upd fs.N ino { a with nd := { a.nd with links := a.nd.links + 1 } } } sl ino) := by
      rcases hl with ⟨h, _⟩ | ⟨_, h⟩
      · cases h
      · exact h
    have hi1 : ino ≠ 1 := fun e => by
      obtain ⟨b, hb, hk2⟩ := hR.rooted.2
      rw [← e, ha] at hb
      cases hb
      exact hk hk2
    have hw := walk_ok hR hC.wf tp false
    have hfree := hw.free hC hR h1 h2
    rw [atG_slot h4] at hfree
    obtain ⟨hn, hd, _⟩ := hw.spot hC h1 (.inl h2)
    obtain ⟨H, hH, hL⟩ := hR.linked
    have hal : ∀ k b, fs.N k = some b → ∃ c, upd fs.N ino { a with nd := { a.nd with links := a.nd.links + 1 } } k = some c ∧ c.nd.kind = b.nd.kind := fun k b e => by
      by_cases hk : k = ino
      · subst hk
        rw [ha] at e
        cases e
        exact ⟨_, updI_at, rfl⟩
      · exact ⟨b, (updI_ne hk).trans e, rfl⟩
    have hne : ∀ k b, fs.N k = some b → upd fs.N ino { a with nd := { a.nd with links := a.nd.links + 1 } } k ≠ none := fun k b e => by
      obtain ⟨c, hc, _⟩ := hal k b e
      rw [hc]; exact fun h => by cases h
    obtain ⟨H', hH'⟩ := slots_make (G := updK fs.G sl ino) fun i => ⟨sl :: H i, fun s e => by
      rcases updK_some e with ⟨rfl, _⟩ | ⟨_, e⟩
      · simp
      · exact List.mem_cons_of_mem _ (((hH i).2.1 s).2 e)⟩
    refine right_of (H := H') ⟨fun k b e => ?_, ?_⟩ (fun s i e => ?_) hH' (fun k b e hk1 => ?_) hl (fun k b e => ?_)
    · rcases updI_some (show upd fs.N ino _ k = some b from e) with ⟨rfl, _⟩ | ⟨_, e⟩
      · exact hR.rooted.1 _ a ha
      · exact hR.rooted.1 k b e
    · obtain ⟨b, hb, hk⟩ := hR.rooted.2
      obtain ⟨c, hc, hk2⟩ := hal 1 b hb
      exact ⟨c, hc, hk2.trans hk⟩
    · rcases updK_some (show updK fs.G sl ino s = some i from e) with ⟨rfl, rfl⟩ | ⟨_, e⟩
      · obtain ⟨b, hb, hk⟩ := hd
        obtain ⟨c, hc, hk2⟩ := hal _ b hb
        rw [h4]
        exact ⟨⟨c, hc, hk2.trans hk⟩, hi1, hne _ a ha, hn⟩
      · obtain ⟨⟨b, hb, hk⟩, h5, h6, h7⟩ := hR.named s i e
        obtain ⟨c, hc, hk2⟩ := hal _ b hb
        obtain ⟨d, hd⟩ := Option.ne_none_iff_exists'.1 h6
        exact ⟨⟨c, hc, hk2.trans hk⟩, h5, hne _ d hd, h7⟩
    · rcases updI_some (show upd fs.N ino _ k = some b from e) with ⟨rfl, rfl⟩ | ⟨hk, e⟩
      · rw [len_more (k := k) (s := sl) hH hH' (by rw [hfree]; exact fun h => by cases h) (fun x => by
          by_cases hx : x = sl
          · subst hx; rw [updK_at]; simp
          · rw [updK_ne hx]; simp [hx])]
        have := (hL _ a ha).1 hk1
        show (((H k).length + 1 : Nat) : Int) = a.nd.links + 1
        omega
      · rw [len_same (k := k) hH hH' (fun x => by
          by_cases hx : x = sl
          · subst hx
            rw [hfree, updK_at]
            constructor
            · intro h; cases h
            · intro h; cases h; exact absurd rfl hk
          · rw [updK_ne hx])]
        exact (hL k b e).1 hk1
    · rcases updI_some (show upd fs.N ino _ k = some b from e) with ⟨rfl, rfl⟩ | ⟨_, e⟩
      · exact hR.filled _ a ha
      · exact hR.filled k b e
end Go.Proofs.YtpboohfofodeeaaGreatDoor
/- Sparse bytes, plainly: what was written is read (conditions: none). -/
namespace Go.Proofs.YtpboohfofodeeaaGreatDoor
open Go.RowKit Go.Maps
theorem byteAt_old (ps : List (Int × ByteArray)) (hz : ∀ p ∈ ps, p.2.size = 64) (q : Int) : (oldB ps (q / 64))[(q % 64).toNat]? = some (byteAt ps q) := by
  have hm := Int.emod_lt_of_pos q (show (0 : Int) < 64 by decide)
  have hm0 := Int.emod_nonneg q (show (64 : Int) ≠ 0 by decide)
  have hl := oldB_len (ix := q / 64) hz
  unfold oldB at hl ⊢
  unfold byteAt
  cases hf : ps.find? (fun p => p.1 == q / 64) with
  | none =>
    simp only
    rw [List.getElem?_replicate, if_pos (by omega)]
  | some p =>
    rw [hf] at hl
    simp only at hl ⊢
    rw [List.getD_eq_getElem?_getD, List.getElem?_eq_getElem (by omega)]
    rfl
theorem find_put {t : Int} {s : ByteArray} : ∀ {l : List (Int × ByteArray)} {x : Int}, Rises l → (putP l t s).find? (fun p => p.1 == x) = if x = t then some (t, s) else l.find? (fun p => p.1 == x)
  | [], x, _ => by
    by_cases e : x = t
    · subst e; rw [if_pos rfl]; simp [putP]
    · rw [if_neg e]
      have : (t == x) = false := by simpa using fun h => e h.symm
      simp [putP, this]
  | p :: r, x, h => by
    have ih := find_put (t := t) (s := s) (x := x) h.tail
    unfold putP
    by_cases h1 : p.1 < t
    · rw [if_pos h1, List.find?_cons, List.find?_cons, ih]
      by_cases e : x = t
      · subst e
        have : (p.1 == x) = false := by simp; omega
        simp [this]
      · rw [if_neg e, if_neg e]
    · rw [if_neg h1]
      by_cases h2 : p.1 = t
      · rw [if_pos h2, List.find?_cons, List.find?_cons]
        by_cases e : x = t
        · subst e
          simp
        · have h3 : (t == x) = false := by simpa using fun h => e h.symm
          have h4 : (p.1 == x) = false := by rw [h2]; exact h3
          rw [h3, h4, if_neg e]
      · rw [if_neg h2, List.find?_cons]
        by_cases e : x = t
        · subst e
          simp
        · have h3 : (t == x) = false := by simpa using fun h => e h.symm
          rw [h3, if_neg e]
theorem oldB_put {l : List (Int × ByteArray)} {t x : Int} {L : List Int} (h : Rises l) (hL : ∀ y ∈ L, 0 ≤ y ∧ y < 256) : oldB (putP l t (strOfNums L)) x = if x = t then L else oldB l x := by
  unfold oldB
  rw [find_put h]
  by_cases e : x = t
  · rw [if_pos e, if_pos e]
    exact numsOf_strOfNums hL
  · rw [if_neg e, if_neg e]
theorem wrF_at (off : Int) (data : ByteArray) : ∀ (f : Nat) (out : List (Int × ByteArray)) (p : Int), off ≤ p → off + data.size - p ≤ f → Pcs out → ∀ q, 0 ≤ q →
    some (byteAt (wrF off data f out p) q) = if p ≤ q ∧ q < off + data.size then (numsOf data)[(q - off).toNat]? else some (byteAt out q)
  | 0, out, p, _, hf, _, q, _ => by
    rw [if_neg (by omega)]
    rfl
  | f + 1, out, p, hp, hf, h, q, hq => by
    rw [wrF]
    by_cases hlt : p < off + data.size
    · rw [if_pos hlt]
      have hm := Int.emod_lt_of_pos p (show (0 : Int) < 64 by decide)
      have hm0 := Int.emod_nonneg p (show (64 : Int) ≠ 0 by decide)
      have hdm := Int.mul_ediv_add_emod p 64
      have hqm := Int.emod_lt_of_pos q (show (0 : Int) < 64 by decide)
      have hqm0 := Int.emod_nonneg q (show (64 : Int) ≠ 0 by decide)
      have hqdm := Int.mul_ediv_add_emod q 64
      have hpos := wrN_pos (len := data.size) hp hlt
      have hN : wrN data.size off p = min (data.size - (p - off).toNat) (64 - (p % 64).toNat) := rfl
      have hs : (strOfNums (wrL off data out p)).size = 64 := by rw [strOfNums_size, wrL_size h.sizes]
      have hput : Pcs (putP out (p / 64) (strOfNums (wrL off data out p))) := h.put hs
      rw [wrF_at off data f _ _ (by omega) (by omega) hput q hq]
      have hby : some (byteAt (putP out (p / 64) (strOfNums (wrL off data out p))) q) = if q / 64 = p / 64 then (wrL off data out p)[(q % 64).toNat]? else some (byteAt out q) := by
        rw [← byteAt_old _ hput.sizes, oldB_put h.rises wrL_lt]
        split
        · rfl
        · exact byteAt_old _ h.sizes q
      by_cases h1 : p + wrN data.size off p ≤ q ∧ q < off + data.size
      · rw [if_pos h1, if_pos (by omega)]
      · rw [if_neg h1, hby]
        by_cases h2 : q / 64 = p / 64
        · rw [if_pos h2, wrL_at h.sizes]
          by_cases h3 : p ≤ q ∧ q < off + data.size
          · rw [if_pos (by omega), if_pos h3]
            congr 1
            omega
          · rw [if_neg h3, if_neg (by omega), ← h2]
            exact byteAt_old _ h.sizes q
        · rw [if_neg h2, if_neg]
          intro h3
          omega
    · rw [if_neg hlt, if_neg (by omega)]
/-- What was written is read. -/
theorem read_write {size off : Int} {data : ByteArray} {ps : List (Int × ByteArray)} (h : Chk size ps) (h0 : 0 ≤ off) (h1 : off ≤ 4611686018427387904 - data.size) : readS (sizeW size off data.size) off data.size (writeS off data ps) = data := by
  have hs : off + data.size ≤ sizeW size off data.size ∨ data.size = 0 := by
    unfold sizeW
    split
    · exact .inr (by assumption)
    · exact .inl (by omega)
  have e : (max (min (data.size : Int) (sizeW size off data.size - off)) 0).toNat = data.size := by
    rcases hs with hs | hs <;> omega
  unfold readS
  rw [e]
  have hl : readL data.size off (writeS off data ps) = numsOf data := by
    refine List.ext_getElem? fun k => ?_
    by_cases hk : k < data.size
    · rw [readL_at _ _ _ _ hk]
      have := wrF_at off data (data.size + 1) ps off (Int.le_refl _) (by omega) ⟨h.rises, fun p hp => (h.bd p hp).2.2⟩ (off + k) (by omega)
      rw [if_pos (by omega), show (off + (k : Int) - off).toNat = k by omega] at this
      exact this
    · rw [List.getElem?_eq_none (by rw [readL_len]; omega), List.getElem?_eq_none (by rw [numsOf_len]; omega)]
  rw [hl, strOfNums_numsOf]
end Go.Proofs.YtpboohfofodeeaaGreatDoor
