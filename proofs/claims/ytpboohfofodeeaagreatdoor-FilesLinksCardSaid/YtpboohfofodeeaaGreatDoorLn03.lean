/- law16: what is written through one name is read through the other, plainly (conditions: none). -/
import Derived.Test.YtpboohfofodeeaaGreatDoorLn02
import Derived.Test.YtpboohfofodeeaaGreatDoorLn01
namespace Go.Proofs.YtpboohfofodeeaaGreatDoor
open Go.RowKit Go.Maps
def bE : ByteArray := ⟨#[]⟩
def oLink (p t : ByteArray) : OpA := ⟨4, p, t, bE, 0, 0, bE⟩
def oStat (p : ByteArray) : OpA := ⟨20, p, bE, bE, 0, 0, bE⟩
def oWrite (p : ByteArray) (off : Int) (d : ByteArray) : OpA := ⟨8, p, bE, bE, off, 0, d⟩
def oRead (p : ByteArray) (off n : Int) : OpA := ⟨9, p, bE, bE, off, n, bE⟩
def oUnl (p : ByteArray) : OpA := ⟨5, p, bE, bE, 0, 0, bE⟩
theorem may_of {o : OpA} (h1 : 1 ≤ o.kind ∧ o.kind ≤ 21) (h2 : (splitP o.path).2 = 0) (h3 : mayK o.kind (splitP o.dest).2 o.n (targetB o.data) o.data.size (nameB o.name) = 0) : mayS o = 0 := by
  unfold mayS
  rw [if_neg (by omega), if_neg (by simpa using h2)]
  exact h3
theorem mayK_none {k sd n : Int} {tb nb : Bool} {dz : Nat} (h : k = 20 ∨ k = 8 ∨ k = 9 ∨ k = 5) : mayK k sd n tb dz nb = 0 := by
  unfold mayK
  rw [if_neg (by omega), if_neg (by omega), if_neg (by omega), if_neg (by omega), if_neg (by omega)]
theorem may_split2 {o : OpA} (hm : mayS o = 0) : (splitP o.path).2 = 0 := by
  unfold mayS at hm
  split at hm
  · cases hm
  · split at hm
    · rename_i h; exact absurd hm h
    · rename_i h; simpa using h
theorem may_dest {o : OpA} (hm : mayS o = 0) (hk : o.kind = 4 ∨ o.kind = 7) : (splitP o.dest).2 = 0 := by
  have h := (may_split hm).2
  unfold mayK at h
  rw [if_pos hk] at h
  exact h
theorem may_stat {p : ByteArray} (h : (splitP p).2 = 0) : mayS (oStat p) = 0 := may_of (by show 1 ≤ (20 : Int) ∧ (20 : Int) ≤ 21; decide) h (mayK_none (.inl rfl))
theorem may_write {p d : ByteArray} {off : Int} (h : (splitP p).2 = 0) : mayS (oWrite p off d) = 0 := may_of (by show 1 ≤ (8 : Int) ∧ (8 : Int) ≤ 21; decide) h (mayK_none (.inr (.inl rfl)))
theorem may_read {p : ByteArray} {off n : Int} (h : (splitP p).2 = 0) : mayS (oRead p off n) = 0 := may_of (by show 1 ≤ (9 : Int) ∧ (9 : Int) ≤ 21; decide) h (mayK_none (.inr (.inr (.inl rfl))))
theorem may_unl {p : ByteArray} (h : (splitP p).2 = 0) : mayS (oUnl p) = 0 := may_of (by show 1 ≤ (5 : Int) ∧ (5 : Int) ≤ 21; decide) h (mayK_none (.inr (.inr (.inr rfl))))
theorem DoesR.at_ {fs fs' : FS} {o : OpA} {p : AnsP} (h : DoesR fs o p fs') (hk : 4 ≤ o.kind) {r : WR} (hw : walkS fs o.path (followsB o.kind) = r) (h0 : r.code = 0) (hi : r.ino ≠ 0) : ∃ sl a, AtR fs r sl a ∧
       ((o.kind = 4 ∧ ∃ code, LinkR fs r.ino a o.dest code fs' ∧ p = ansP0 code) ∨
        (o.kind = 7 ∧ ∃ code, RenR fs sl r.ino a o.dest code fs' ∧ p = ansP0 code) ∨
        ((o.kind = 5 ∨ o.kind = 6) ∧ p = ansP0 (unlinkC fs sl r.ino a (o.kind == 6)) ∧ fs' = unlinkS fs sl r.ino a (o.kind == 6)) ∨
        ((o.kind = 8 ∨ o.kind = 9 ∨ o.kind = 10 ∨ o.kind = 11 ∨ o.kind = 21) ∧ p = dataA a o ∧ fs' = dataFS fs r.ino a o) ∨
        ((12 ≤ o.kind ∧ o.kind ≤ 20) ∧ NodeR fs r.ino a o p fs')) := by
  unfold DoesR at h
  rw [hw] at h
  rcases h with ⟨h1, _⟩ | ⟨_, ⟨h1, _⟩ | ⟨_, h1, _⟩ | h1⟩
  · exact absurd h0 h1
  · omega
  · exact absurd h1 hi
  · exact h1
/-- What an operation that was done met. -/
theorem DoesR.met {fs fs' : FS} {o : OpA} {p : AnsP} (h : DoesR fs o p fs') (hk : 4 ≤ o.kind) (hc : p.code = 0) : (walkS fs o.path (followsB o.kind)).code = 0 ∧ (walkS fs o.path (followsB o.kind)).ino ≠ 0 := by
  rcases h with ⟨h1, rfl, _⟩ | ⟨h0, ⟨h1, _⟩ | ⟨_, _, rfl, _⟩ | ⟨sl, a, hat, _⟩⟩
  · exact absurd hc h1
  · omega
  · exact absurd hc (by decide : (160 : Int) ≠ 0)
  · exact ⟨h0, hat.ino⟩
section
variable {n : Nat} {fs : FS} {l l' : List (ByteArray × ByteArray)} {path : ByteArray} {r : WR} {a : NodeA} {p : AnsP}
theorem do_stat (h : Mid n fs l) (hR : RightFS fs) (hs : (splitP path).2 = 0) (hw : walkS fs path false = r) (h0 : r.code = 0) (hi : r.ino ≠ 0) (ha : fs.N r.ino = some a) (hd : DoR l (oStat path) p l') : p.code = 0 ∧ p.ino = r.ino ∧ p.nd = a.nd := by
  obtain ⟨p1, fs', hds, hc, hp⟩ := mid_right h hR (may_stat hs) hd
  obtain ⟨sl, b, hat, h2⟩ := hds.at_ (by show 4 ≤ (20 : Int); decide) (r := r) hw h0 hi
  have hb := hat.node
  rw [ha] at hb
  cases hb
  have h3 : NodeR fs r.ino a (oStat path) p1 fs' := by
    rcases h2 with ⟨h1, _⟩ | ⟨h1, _⟩ | ⟨h1, _⟩ | ⟨h1, _⟩ | ⟨_, h1⟩
    · exact absurd h1 (by show ¬ (20 : Int) = 4; decide)
    · exact absurd h1 (by show ¬ (20 : Int) = 7; decide)
    · exact absurd h1 (by show ¬ ((20 : Int) = 5 ∨ (20 : Int) = 6); decide)
    · exact absurd h1 (by show ¬ ((20 : Int) = 8 ∨ (20 : Int) = 9 ∨ (20 : Int) = 10 ∨ (20 : Int) = 11 ∨ (20 : Int) = 21); decide)
    · exact h1
  have hk : (oStat path).kind = 20 := rfl
  have h4 : p1 = { ansP0 0 with ino := r.ino, nd := a.nd } := by
    rcases h3 with ⟨k, _⟩ | ⟨k, _⟩ | ⟨k, _⟩ | ⟨k, _⟩ | ⟨k, _⟩ | ⟨k, _⟩ | ⟨k, _⟩ | ⟨k, _⟩ | ⟨_, _, h4⟩
    · omega
    · omega
    · omega
    · omega
    · omega
    · omega
    · omega
    · omega
    · exact h4
  have h5 : p1.code = 0 := by rw [h4]; rfl
  obtain ⟨rfl, _⟩ := hp h5
  rw [h4]
  exact ⟨rfl, rfl, rfl⟩
theorem do_data {o : OpA} (h : Mid n fs l) (hR : RightFS fs) (hm : mayS o = 0) (hk : o.kind = 8 ∨ o.kind = 9) (hw : walkS fs o.path true = r) (h0 : r.code = 0) (hi : r.ino ≠ 0) (ha : fs.N r.ino = some a) (hd : DoR l o p l') : p.code = dataC a o ∧ (p.code = 0 → p = dataA a o ∧ ItemsOf (dataFS fs r.ino a o) l' ∧ Itm (n + 5001) (dataFS fs r.ino a o)) := by
  obtain ⟨p1, fs', hds, hc, hp⟩ := mid_right h hR hm hd
  have hf : followsB o.kind = true := by rcases hk with h | h <;> rw [h] <;> rfl
  obtain ⟨sl, b, hat, h2⟩ := hds.at_ (by omega) (r := r) (by rw [hf]; exact hw) h0 hi
  have hb := hat.node
  rw [ha] at hb
  cases hb
  rcases h2 with ⟨h1, _⟩ | ⟨h1, _⟩ | ⟨h1, _⟩ | ⟨_, rfl, rfl⟩ | ⟨h1, _⟩
  · omega
  · omega
  · omega
  · refine ⟨hc, fun h => ?_⟩
    obtain ⟨rfl, h3, h4⟩ := hp (hc.symm.trans h)
    exact ⟨rfl, h3, h4⟩
  · omega
theorem do_read {off : Int} {m : Nat} (h : Mid n fs l) (hR : RightFS fs) (hs : (splitP path).2 = 0) (hw : walkS fs path true = r) (h0 : r.code = 0) (hi : r.ino ≠ 0) (ha : fs.N r.ino = some a) (hk : a.nd.kind ≠ 2) (hoff : 0 ≤ off) (hm : m ≤ 4096) (hd : DoR l (oRead path off m) p l') : p.data = readS a.nd.size off m a.ps := by
  have hc0 : dataC a (oRead path off m) = 0 := by
    unfold dataC
    rw [if_neg hk, if_pos (show (oRead path off m).kind = 9 from rfl), if_neg]
    show ¬ (off < 0 ∨ (m : Int) < 0 ∨ 4096 < (m : Int))
    omega
  obtain ⟨hc, hp⟩ := do_data h hR (may_read hs) (.inr rfl) hw h0 hi ha hd
  obtain ⟨rfl, _⟩ := hp (hc.trans hc0)
  unfold dataA
  simp only
  rw [if_pos ⟨(rfl : (oRead path off m).kind = 9), hc0⟩]
  rfl
theorem do_unl (h : Mid n fs l) (hR : RightFS fs) (hs : (splitP path).2 = 0) (hw : walkS fs path false = r) (h0 : r.code = 0) (hi : r.ino ≠ 0) (ha : fs.N r.ino = some a) (hk : a.nd.kind ≠ 2) (hd : DoR l (oUnl path) p l') : p.code = 0 ∧ ∃ sl : SlotK, sl.1 = (r.dir, r.name) ∧ Mid (n + 5001) (awayS fs sl r.ino a) l' := by
  obtain ⟨p1, fs', hds, hc, hp⟩ := mid_right h hR (may_unl hs) hd
  obtain ⟨sl, b, hat, h2⟩ := hds.at_ (by show 4 ≤ (5 : Int); decide) (r := r) hw h0 hi
  have hb := hat.node
  rw [ha] at hb
  cases hb
  have hC : unlinkC fs sl r.ino a false = 0 := by
    unfold unlinkC
    rw [if_neg (fun x => hk x.1), if_pos rfl]
  have h3 : p1 = ansP0 (unlinkC fs sl r.ino a ((oUnl path).kind == 6)) ∧ fs' = unlinkS fs sl r.ino a ((oUnl path).kind == 6) := by
    rcases h2 with ⟨h1, _⟩ | ⟨h1, _⟩ | ⟨_, h1⟩ | ⟨h1, _⟩ | ⟨h1, _⟩
    · exact absurd h1 (by show ¬ (5 : Int) = 4; decide)
    · exact absurd h1 (by show ¬ (5 : Int) = 7; decide)
    · exact h1
    · exact absurd h1 (by show ¬ ((5 : Int) = 8 ∨ (5 : Int) = 9 ∨ (5 : Int) = 10 ∨ (5 : Int) = 11 ∨ (5 : Int) = 21); decide)
    · exact absurd h1 (by show ¬ ((12 : Int) ≤ 5 ∧ (5 : Int) ≤ 20); decide)
  have hq : ((oUnl path).kind == 6) = false := rfl
  rw [hq] at h3
  obtain ⟨rfl, rfl⟩ := h3
  have h5 : (ansP0 (unlinkC fs sl r.ino a false)).code = 0 := hC
  obtain ⟨rfl, h6, h7⟩ := hp h5
  have e : unlinkS fs sl r.ino a false = awayS fs sl r.ino a := by unfold unlinkS; rw [if_pos hC]
  rw [e] at h6 h7
  exact ⟨h5, sl, hat.slot, away_canon h.canon ha sl, h6, h7⟩
end
theorem na_size (a : NodeA) (o : OpA) : (dataNA a o).nd.size = dataSZ a o := rfl
theorem na_ps (a : NodeA) (o : OpA) : (dataNA a o).ps = dataPS a o := rfl
theorem read_na {a : NodeA} {p data : ByteArray} {off : Int} (h : Chk a.nd.size a.ps) (h0 : 0 ≤ off) (h1 : off ≤ 4611686018427387904 - data.size) : readS (dataSZ a (oWrite p off data)) off data.size (dataPS a (oWrite p off data)) = data := by
  have e1 : dataSZ a (oWrite p off data) = sizeW a.nd.size off data.size := by
    unfold dataSZ
    rw [if_pos (show (oWrite p off data).kind = 8 from rfl)]
    rfl
  have e2 : dataPS a (oWrite p off data) = writeS off data a.ps := by
    unfold dataPS
    rw [if_pos (show (oWrite p off data).kind = 8 from rfl)]
    rfl
  rw [e1, e2]
  exact read_write h h0 h1
set_option maxHeartbeats 2000000 in
/-- **What is written through one name is read through the other, and stays when the first is taken away.** -/
theorem links_law {n : Nat} {fs : FS} {l0 l1 lb lm : List (ByteArray × ByteArray)} {from_ to_ data : ByteArray} {off : Int} {p1 pb pc : AnsP} (h : Mid n fs l0) (hoff : -9223372036854775808 ≤ off ∧ off ≤ 9223372036854775807) (hz : data.size ≤ 200)
    (hd1 : DoR l0 (oLink from_ to_) p1 l1) (hc1 : p1.code = 0) (hd2 : DoR l1 (oStat from_) pb lb) (hkb : pb.nd.kind = 1) (hd3 : DoR l1 (oWrite from_ off data) pc lm) :
    (pc.code ≠ 0 → (off < 0 ∧ pc.code = 1) ∨ (pc.code = 130 ∧ 4611686018427387904 - (data.size : Int) < off)) ∧
    (pc.code = 0 → (∀ pd ld, DoR lm (oRead to_ off data.size) pd ld → pd.data = data) ∧ ∀ pe ln, DoR lm (oUnl from_) pe ln → pe.code = 0 ∧ (∀ pf lf, DoR ln (oRead to_ off data.size) pf lf → pf.data = data) ∧ ∀ pg lg, DoR ln (oStat to_) pg lg → pg.ino = pb.ino ∧ pg.nd.links = pb.nd.links - 1) ∧
    (1 ≤ pb.nd.links ∧ pb.nd.links ≤ 1099511627776) := by
  have hC := h.canon
  rcases mid_step h ⟨(by decide : -9223372036854775808 ≤ (0 : Int) ∧ (0 : Int) ≤ 9223372036854775807), (by decide : -9223372036854775808 ≤ (0 : Int) ∧ (0 : Int) ≤ 9223372036854775807)⟩ hd1 with ⟨h1, _⟩ | ⟨_, hR, hm1, fs1, hds1, hM1⟩
  · exact absurd hc1 h1
  have hsf : (splitP from_).2 = 0 := may_split2 hm1
  have hst : (splitP to_).2 = 0 := may_dest hm1 (.inl rfl)
  obtain ⟨h0, hi⟩ := hds1.met (by show 4 ≤ (4 : Int); decide) hc1
  obtain ⟨r, hr⟩ : ∃ r, r = walkS fs from_ false := ⟨_, rfl⟩
  have h0 : r.code = 0 := by rw [hr]; exact h0
  have hi : r.ino ≠ 0 := by rw [hr]; exact hi
  obtain ⟨sl0, a, hat, h2⟩ := hds1.at_ (by show 4 ≤ (4 : Int); decide) (r := r) hr.symm h0 hi
  have hL : LinkR fs r.ino a to_ 0 fs1 := by
    rcases h2 with ⟨_, code, h3, rfl⟩ | ⟨h1, _⟩ | ⟨h1, _⟩ | ⟨h1, _⟩ | ⟨h1, _⟩
    · obtain rfl : code = 0 := hc1
      exact h3
    · exact absurd h1 (by show ¬ (4 : Int) = 7; decide)
    · exact absurd h1 (by show ¬ ((4 : Int) = 5 ∨ (4 : Int) = 6); decide)
    · exact absurd h1 (by show ¬ ((4 : Int) = 8 ∨ (4 : Int) = 9 ∨ (4 : Int) = 10 ∨ (4 : Int) = 11 ∨ (4 : Int) = 21); decide)
    · exact absurd h1 (by show ¬ ((12 : Int) ≤ 4 ∧ (4 : Int) ≤ 20); decide)
  have ha := hat.node
  have hR1 := hL.right hC hR ha
  have hC1 := hM1.canon
  have hw := walk_ok hR hC.wf from_ false
  rw [← hr] at hw
  rcases hL with ⟨_, h1, _⟩ | ⟨_, h1, h2, _⟩ | ⟨_, _, _, h1, _⟩ | ⟨_, _, _, _, h1, _⟩ | ⟨hk, ht0, hti, _, sl, hsl, hfs1, _⟩
  · cases h1
  · exact absurd h2.symm h1
  · cases h1
  · cases h1
  have hfree := (walk_ok hR hC.wf to_ false).free hC hR ht0 hti
  rw [atG_slot hsl] at hfree
  have hal1 : Alike fs fs1 := by rw [hfs1]; exact alike_upd ha rfl rfl
  have hput : PutIn fs fs1 sl r.ino := ⟨hfree, by rw [hfs1]; exact updK_at, fun s hs => by rw [hfs1]; exact updK_ne hs, hal1, ⟨a, ha, hk⟩⟩
  have hw1 : walkS fs1 from_ false = r := by
    rw [walk_put hC hR hput (fun h => by cases h) (by rw [← hr]; exact h0), ← hr]
    unfold putR
    rw [if_neg (fun x => hi x.1)]
  have ha1 : fs1.N r.ino = some { a with nd := { a.nd with links := a.nd.links + 1 } } := by rw [hfs1]; exact updI_at
  obtain ⟨hcb, hib, hnb⟩ := do_stat hM1 hR1 hsf hw1 h0 hi ha1 hd2
  have hk1 : a.nd.kind = 1 := by rw [hnb] at hkb; exact hkb
  have hwt1 : walkS fs1 to_ false = ⟨sl.1.1, sl.1.2, r.ino, 0⟩ := by
    rw [walk_put hC hR hput (fun h => by cases h) ht0]
    unfold putR
    rw [if_pos ⟨hti, hsl.symm⟩, hsl]
  have hno3 : ∀ b, fs1.N r.ino = some b → b.nd.kind ≠ 3 := fun b hb => by
    rw [ha1] at hb
    cases hb
    show a.nd.kind ≠ 3
    omega
  have hw1t : walkS fs1 from_ true = r := by
    rw [walk_same hR1 rfl (Alike.refl _) (fo := false) (fo1 := true) (fun h => by cases h) (by rw [hw1]; exact h0) (.inr (by rw [hw1]; exact hno3)), hw1]
  obtain ⟨hcc, hpc⟩ := do_data hM1 hR1 (may_write hsf) (.inl rfl) hw1t h0 hi ha1 hd3
  have hdc : dataC { a with nd := { a.nd with links := a.nd.links + 1 } } (oWrite from_ off data) = if off < 0 ∨ 4096 < data.size then 1 else if 4611686018427387904 - (data.size : Int) < off then 130 else 0 := by
    unfold dataC
    rw [if_neg (by show ¬ a.nd.kind = 2; omega), if_neg (by show ¬ (8 : Int) = 9; decide), if_neg (by show ¬ (8 : Int) = 21; decide), if_pos (show (oWrite from_ off data).kind = 8 from rfl)]
    rfl
  rw [hdc] at hcc
  refine ⟨fun hne => ?_, fun hce => ?_, ?_⟩
  rotate_left 2
  · rw [hnb]
    have := (hC1.node _ _ ha1).2.1
    unfold ND.right at this
    exact ⟨this.1, this.2.1⟩
  · by_cases hoff0 : off < 0
    · rw [if_pos (.inl hoff0)] at hcc
      exact .inl ⟨hoff0, hcc⟩
    · rw [if_neg (by omega)] at hcc
      by_cases hfar : 4611686018427387904 - (data.size : Int) < off
      · rw [if_pos hfar] at hcc
        exact .inr ⟨hcc, hfar⟩
      · rw [if_neg hfar] at hcc
        exact absurd hcc hne
  · have hoff0 : ¬ off < 0 := fun x => by rw [if_pos (.inl x)] at hcc; omega
    rw [if_neg (by omega)] at hcc
    have hfar : ¬ 4611686018427387904 - (data.size : Int) < off := fun x => by rw [if_pos x] at hcc; omega
    obtain ⟨_, hit, hitm⟩ := hpc hce
    have hdc0 : dataC { a with nd := { a.nd with links := a.nd.links + 1 } } (oWrite from_ off data) = 0 := by
      rw [hdc, if_neg (by omega), if_neg hfar]
    obtain ⟨b, hb⟩ : ∃ b, b = dataNA { a with nd := { a.nd with links := a.nd.links + 1 } } (oWrite from_ off data) := ⟨_, rfl⟩
    have hck : Chk a.nd.size a.ps := chk_iff.1 ((hR1.filled _ _ ha1).2 hk1)
    have hdk := data_chk (a := { a with nd := { a.nd with links := a.nd.links + 1 } }) (o := oWrite from_ off data) hck hdc0 (.inl rfl)
    have hCd := data_canon hC1 ha1 (.inl rfl) hdc0 hk1 hck
    have hfs2 : dataFS fs1 r.ino { a with nd := { a.nd with links := a.nd.links + 1 } } (oWrite from_ off data) = { fs1 with N := upd fs1.N r.ino b } := by
      unfold dataFS
      rw [if_pos hdc0, hb]
    rw [hfs2] at hit hitm hCd
    have hbk : b.nd.kind = 1 := by rw [hb]; exact hk1
    have hbl : b.nd.links = a.nd.links + 1 := by rw [hb]; rfl
    have hR2 : RightFS { fs1 with N := upd fs1.N r.ino b } := right_node hR1 ha1 (by rw [hbk]; exact hk1.symm) hbl ⟨fun h => absurd hbk h, fun _ => by rw [hb]; exact chk_iff.2 hdk⟩
    have hM2 : Mid (n + 5001 + 5001) { fs1 with N := upd fs1.N r.ino b } lm := ⟨hCd, hit, hitm⟩
    have hal2 : Alike fs1 { fs1 with N := upd fs1.N r.ino b } := alike_upd ha1 (by rw [hbk]; exact hk1.symm) (by rw [hb]; rfl)
    have hb2 : ({ fs1 with N := upd fs1.N r.ino b } : FS).N r.ino = some b := updI_at
    have hG2 : ({ fs1 with N := upd fs1.N r.ino b } : FS).G = fs1.G := rfl
    generalize ({ fs1 with N := upd fs1.N r.ino b } : FS) = fs2 at hM2 hR2 hal2 hb2 hG2
    have hw2 : walkS fs2 from_ false = r := by rw [walk_same hR1 hG2 hal2 (fo := false) (fo1 := false) (fun h => h) (by rw [hw1]; exact h0) (.inl rfl), hw1]
    have hwt2t : walkS fs2 to_ true = ⟨sl.1.1, sl.1.2, r.ino, 0⟩ := by rw [walk_same hR1 hG2 hal2 (fo := false) (fo1 := true) (fun h => by cases h) (by rw [hwt1]) (.inr (by rw [hwt1]; exact hno3)), hwt1]
    have hwt2 : walkS fs2 to_ false = ⟨sl.1.1, sl.1.2, r.ino, 0⟩ := by rw [walk_same hR1 hG2 hal2 (fo := false) (fo1 := false) (fun h => h) (by rw [hwt1]) (.inl rfl), hwt1]
    have hread : readS b.nd.size off data.size b.ps = data := by
      rw [hb, na_size, na_ps]
      exact read_na hck (by omega) (by omega)
    refine ⟨fun pd ld hd => ?_, fun pe ln hd => ?_⟩
    · rw [do_read hM2 hR2 hst hwt2t rfl hi hb2 (by omega) (by omega) (by omega) hd]
      exact hread
    · obtain ⟨hec, sl5, hsl5, hM3⟩ := do_unl hM2 hR2 hsf hw2 h0 hi hb2 (by omega) hd
      have hgf : fs.G sl5 = some r.ino := by
        have := hw.slot_file hC h0 ha hk
        rw [atG_slot hsl5] at this
        exact this
      have hne5 : sl5 ≠ sl := fun e => by rw [e, hfree] at hgf; cases hgf
      have hg5 : fs2.G sl5 = some r.ino := by rw [hG2, hput.ne sl5 hne5]; exact hgf
      have hR3 := right_away hR2 hg5 hb2 (dir_ne hR2 hb2 (by omega))
      have hl5 : b.nd.links ≠ 1 := by
        have := (hC.node _ a ha).2.1
        unfold ND.right at this
        omega
      have hb3 : (awayS fs2 sl5 r.ino b).N r.ino = some { b with nd := { b.nd with links := b.nd.links - 1 } } := by
        unfold awayS
        simp only
        rw [if_neg hl5, updI_at]
      have hal3 : Alike fs2 (awayS fs2 sl5 r.ino b) := fun k c e => by
        by_cases hk : k = r.ino
        · subst hk
          rw [hb2] at e
          cases e
          exact ⟨_, hb3, rfl, rfl⟩
        · exact ⟨c, by rw [away_N _ _ _ _ hk]; exact e, rfl, rfl⟩
      have hoff5 : OffIn fs2 (awayS fs2 sl5 r.ino b) sl5 r.ino := ⟨hg5, remK_at, fun s hs => remK_ne hs, hal3, ⟨b, hb2, hbk⟩⟩
      have hns : (sl.1.1, sl.1.2) ≠ sl5.1 := fun e => hne5 (Subtype.ext e.symm)
      have hw3t : walkS (awayS fs2 sl5 r.ino b) to_ true = ⟨sl.1.1, sl.1.2, r.ino, 0⟩ := by rw [walk_off hR2 hoff5 (by rw [hwt2t]) (by rw [hwt2t]; exact hns), hwt2t]
      have hw3 : walkS (awayS fs2 sl5 r.ino b) to_ false = ⟨sl.1.1, sl.1.2, r.ino, 0⟩ := by rw [walk_off hR2 hoff5 (by rw [hwt2]) (by rw [hwt2]; exact hns), hwt2]
      refine ⟨hec, fun pf lf hd => ?_, fun pg lg hd => ?_⟩
      · rw [do_read hM3 hR3 hst hw3t rfl hi hb3 (by show b.nd.kind ≠ 2; omega) (by omega) (by omega) hd]
        exact hread
      · obtain ⟨_, h2, h3⟩ := do_stat hM3 hR3 hst hw3 rfl hi hb3 hd
        rw [h2, h3, hib, hnb]
        exact ⟨rfl, by show b.nd.links - 1 = a.nd.links + 1 - 1; omega⟩
end Go.Proofs.YtpboohfofodeeaaGreatDoor
/- law16: FilesLinks (conditions: none; printed by gen_lnk.py). -/
namespace Go.Proofs.YtpboohfofodeeaaGreatDoor
open Go.RowKit Go.Maps
/-- A list of items that are few, and small. -/
structure SmL (N : Nat) (L : List (ByteArray × ByteArray)) : Prop where
  few : L.length ≤ N
  small : ∀ x ∈ L, x.1.size ≤ 300 ∧ x.2.size ≤ 4000
theorem SmL.of {N : Nat} {fs : FS} {L : List (ByteArray × ByteArray)} (h : Itm N fs) (hL : ItemsOf fs L) : SmL N L := ⟨(items_few h hL).1, (items_few h hL).2⟩
theorem DoR.sml {N : Nat} {L L' : List (ByteArray × ByteArray)} {o : OpA} {p : AnsP} (h : SmL N L) (hd : DoR L o p L') : SmL (N + 5001) L' := by
  have hf := h.few
  have h0 : SmL (N + 5001) [] := ⟨Nat.zero_le _, fun x hx => by simp at hx⟩
  rcases hd with ⟨_, _, rfl⟩ | ⟨_, _, _, _, _, rfl⟩ | ⟨_, _, _, _, _, _, _, hi, hc⟩
  · exact h0
  · exact h0
  · rcases hc with ⟨_, _, rfl⟩ | ⟨_, _, h2⟩
    · exact h0
    · exact SmL.of (hi.mono (by omega)) h2
theorem lw_do1 {w : World} {A : Option Addr} {n q N : Nat} {L : List (ByteArray × ByteArray)} (hR : RdI w A n L) (hS : SmL N L) (hN : N ≤ 1000000) (hl : LibV w) {o : OpA} (hs : OpSmall o) (hi : OpInts o) :
    Calls Tryz.prog 14 #[.slice A n q, .agg #[.int .i64 o.kind, .string o.path, .string o.dest, .string o.name, .int .i64 o.off, .int .i64 o.n, .string o.data]] w (DidE w L o) := by
  have hn : n ≤ 137438953000 := by have := hR.1; have := hS.few; omega
  refine (fw_do L hR hn (fun x hx => by obtain ⟨a, b⟩ := hS.small x hx; exact ⟨by omega, by omega⟩) hl o hs hi).mono fun e w' h => ?_
  obtain ⟨v, an, p, l', he, hD, hA, hown, hb⟩ := h
  obtain ⟨A1, q1, rfl⟩ := own_slice hown
  obtain ⟨A5, q5, h5⟩ := own_slice hA.names
  obtain ⟨A6, q6, h6⟩ := own_slice hA.ranges
  have hnm := hA.names
  rw [h5] at hnm
  refine ⟨A1, q1, A5, q5, A6, q6, p, l', ?_, hD, hown, hnm, hb⟩
  rw [he]
  have e1 := hA.code
  have e2 := hA.data
  have e3 := hA.ino
  have e4 := hA.nd
  obtain ⟨ac, ad, an5, an6, ai, and_⟩ := an
  simp only at h5 h6 e1 e2 e3 e4
  subst h5 h6 e1 e2 e3 e4
  rfl
theorem txt_isE {d : ByteArray} (h : d.size ≠ 0) : d.toList.isEmpty = false := by
  rw [toList_eq]
  cases hd : d.data.toList with
  | nil => exact absurd (by have := congrArg List.length hd; simpa using this) h
  | cons x t => rfl
theorem txt_nil {d : ByteArray} (h : d.size = 0) : d = ⟨#[]⟩ := by
  obtain ⟨⟨l⟩⟩ := d
  cases l with
  | nil => rfl
  | cons x t => simp [ByteArray.size] at h
set_option maxRecDepth 100000 in
set_option maxHeartbeats 32000000 in
theorem law_links {w : World} {A : Option Addr} {n c : Nat} {ops : List OpA} {from_ to_ data : ByteArray} {off : Int} (hl : LibV w) (h : RdO w A n ops) (ho : i64R off) : Calls Tryz.prog 4 #[.slice A n c, .string from_, .string to_, .int .i64 off, .string data] w fun e w' => e = .returned (.bool true) ∧ Below w.heap.size w w' := by
  have HLV := Lib.hid hl
  have HRO := Lib.hid h
  have HLEN := Lib.hid h.1
  have HOFF := Lib.hid ho
  clear hl h ho
  have HLG : Hid (∀ W, RdO W A n ops → Calls Tryz.prog 11 #[.slice A n c, .int .i64 40] W (LongEnds W ops 40)) := Lib.hid fun W h => lw_long (c := c) h 40
  by_cases hbig : 1200 < from_.size ∨ 1200 < to_.size ∨ 200 < data.size ∨ data.size = 0
  · rcases hbig with hx | hx | hx | hx
    case inr.inr.inr =>
      obtain rfl := txt_nil hx
      clear hx
      by_cases h1 : 1200 < from_.size
      all_goals by_cases h2 : 1200 < to_.size
      all_goals (
        go_enter Tryz.func4, Tryz.ntmps4
        go_wp2_with (first
          | (go_at_call 10
             refine (lw_awake HLV.out).mono ?_
             rintro e w1 ⟨rfl, hb1⟩
             have HB1 := Lib.hid hb1
             clear hb1)
          | (go_at_call 11
             refine (HLG.out _ (HRO.out.below HB1.out)).mono ?_
             rintro e w2 ⟨hb2, rfl | ⟨rfl, hfew, hgr⟩⟩
             all_goals have HB2 := Lib.hid (bl_t HB1.out hb2)
             all_goals clear hb2))
        all_goals go_ret
        all_goals exact ⟨rfl, HB2.out⟩)
    all_goals (
      by_cases h1 : 1200 < from_.size
      all_goals by_cases h2 : 1200 < to_.size
      all_goals by_cases h3 : 200 < data.size
      all_goals (first | (exfalso; omega) | skip)
      all_goals clear hx
      all_goals (
        go_enter Tryz.func4, Tryz.ntmps4
        go_wp2_with (first
          | (go_at_call 10
             refine (lw_awake HLV.out).mono ?_
             rintro e w1 ⟨rfl, hb1⟩
             have HB1 := Lib.hid hb1
             clear hb1)
          | (go_at_call 11
             refine (HLG.out _ (HRO.out.below HB1.out)).mono ?_
             rintro e w2 ⟨hb2, rfl | ⟨rfl, hfew, hgr⟩⟩
             all_goals have HB2 := Lib.hid (bl_t HB1.out hb2)
             all_goals clear hb2))
        all_goals go_ret
        all_goals exact ⟨rfl, HB2.out⟩))
  have hz1 : from_.size ≤ 1200 := by omega
  have hz2 : to_.size ≤ 1200 := by omega
  have hz3 : data.size ≤ 200 := by omega
  have hz4 := txt_isE (d := data) (by omega)
  have h1 : ¬ 1200 < from_.size := by omega
  have h2 : ¬ 1200 < to_.size := by omega
  have h3 : ¬ 200 < data.size := by omega
  clear hbig
  go_enter Tryz.func4, Tryz.ntmps4
  go_upto_region 5 with (first
    | (go_at_call 10
       refine (lw_awake HLV.out).mono ?_
       rintro e w1 ⟨rfl, hb1⟩
       have HB1 := Lib.hid hb1
       clear hb1)
    | (go_at_call 11
       refine (HLG.out _ (HRO.out.below HB1.out)).mono ?_
       rintro e w2 ⟨hb2, rfl | ⟨rfl, hfew, hgr⟩⟩
       all_goals have HB2 := Lib.hid (bl_t HB1.out hb2)
       all_goals clear hb2))
  · go_wp2
    go_ret
    exact ⟨rfl, HB2.out⟩
  have HGR := Lib.hid hgr
  have hn60 : n ≤ 60 := by have := HLEN.out; omega
  have HRW := Lib.hid (HRO.out.below HB2.out)
  have HLW := Lib.hid (HLV.out.below HB2.out)
  have small : ∀ (k : Int) (a b d : ByteArray) (x y : Int), a.size ≤ 1200 → b.size ≤ 1200 → d.size ≤ 200 → OpSmall ⟨k, a, b, bE, x, y, d⟩ := fun k a b d x y ha hb hd => ⟨by simp only; omega, by simp only; omega, (by decide : bE.size ≤ 4294967280), by simp only; omega⟩
  have HSMALL := Lib.hid small
  clear hgr hfew HLV HRO HB1 small
  go_upto_region 6 with (first
    | (go_at_call 13
       refine (lw_made HLW.out HRW.out hn60 HGR.out).mono ?_
       rintro e u1 hM
       obtain ⟨B1, t1, L0, fs, rfl, hM⟩ := hM
       have HM := Lib.hid hM
       have HU1 := Lib.hid hM.ls.rd
       have HBU1 := Lib.hid hM.ls.bl
       have HS0 : Hid (SmL 310000 L0) := Lib.hid (SmL.of (hM.ls.itm.mono (by omega)) hM.ls.it)
       clear hM)
    | (go_at_call 14
       refine (lw_do1 HU1.out HS0.out (by omega) (HLW.out.below HBU1.out) (o := oLink from_ to_) (HSMALL.out _ _ _ _ _ _ hz1 hz2 (by decide : bE.size ≤ 200)) (⟨(by decide : -9223372036854775808 ≤ (0 : Int) ∧ (0 : Int) ≤ 9223372036854775807), (by decide : -9223372036854775808 ≤ (0 : Int) ∧ (0 : Int) ≤ 9223372036854775807)⟩)).mono ?_
       rintro e v1 hD
       obtain ⟨A1, q1, C1, x1, E1, y1, p1, l1, rfl, hd, hr, hn, hb⟩ := hD
       have hbx : Below v1.heap.size v1 (v1.alloc (.cells #[.int .i64 p1.code, .string p1.data, .slice C1 p1.names.length x1, .slice E1 p1.ranges.length y1, .int .i64 p1.ino, .int .i64 p1.nd.kind, .int .i64 p1.nd.mode, .int .i64 p1.nd.time, .int .i64 p1.nd.links, .int .i64 p1.nd.size, .string p1.nd.target] 36)) := (Below.refl _ _).alloc (Nat.le_refl _) _
       have hbw := bl_t (bl_t HBU1.out hb) hbx
       have HD1 := Lib.hid hd
       have HS1 := Lib.hid (hd.sml HS0.out)
       have HR1 := Lib.hid ((it_row hr rfl).below (Nat.le_refl _) hbx)
       have HA1 := Lib.hid (Blk.new v1 36 #[.int .i64 p1.code, .string p1.data, .slice C1 p1.names.length x1, .slice E1 p1.ranges.length y1, .int .i64 p1.ino, .int .i64 p1.nd.kind, .int .i64 p1.nd.mode, .int .i64 p1.nd.time, .int .i64 p1.nd.links, .int .i64 p1.nd.size, .string p1.nd.target])
       have HBW1 := Lib.hid hbw
       obtain ⟨r1, hrk⟩ : ∃ r1, r1 = v1.heap.size := ⟨_, rfl⟩
       rw [← hrk] at HA1
       have HRK1 := Lib.hid hrk
       clear hd hr hn hb hbx hbw hrk))
  rw [← HRK1.out]
  generalize v1.alloc (.cells #[.int .i64 p1.code, .string p1.data, .slice C1 p1.names.length x1, .slice E1 p1.ranges.length y1, .int .i64 p1.ino, .int .i64 p1.nd.kind, .int .i64 p1.nd.mode, .int .i64 p1.nd.time, .int .i64 p1.nd.links, .int .i64 p1.nd.size, .string p1.nd.target] 36) = W1 at *
  replace HLW := Lib.hid (HLW.out.below HBW1.out)
  have HBB1 := Lib.hid (bl_t HB2.out HBW1.out)
  go_upto_region 7 with (first
    | (go_at_call 15
       refine (lw_own2 HR1.out (by have := HS1.out.few; omega)).mono ?_
       rintro e u2 ⟨B2, t2, rfl, hr, hb⟩
       have HU2 := Lib.hid hr
       have HBU2 := Lib.hid hb
       clear hr hb)
    | (go_at_call 14
       refine (lw_do1 HU2.out HS1.out (by omega) (HLW.out.below HBU2.out) (o := oStat from_) (HSMALL.out _ _ _ _ _ _ hz1 (by decide : bE.size ≤ 1200) (by decide : bE.size ≤ 200)) (⟨(by decide : -9223372036854775808 ≤ (0 : Int) ∧ (0 : Int) ≤ 9223372036854775807), (by decide : -9223372036854775808 ≤ (0 : Int) ∧ (0 : Int) ≤ 9223372036854775807)⟩)).mono ?_
       rintro e v2 hD
       obtain ⟨A2, q2, C2, x2, E2, y2, p2, l2, rfl, hd, hr, hn, hb⟩ := hD
       have hbx : Below v2.heap.size v2 (v2.alloc (.cells #[.int .i64 p2.code, .string p2.data, .slice C2 p2.names.length x2, .slice E2 p2.ranges.length y2, .int .i64 p2.ino, .int .i64 p2.nd.kind, .int .i64 p2.nd.mode, .int .i64 p2.nd.time, .int .i64 p2.nd.links, .int .i64 p2.nd.size, .string p2.nd.target] 36)) := (Below.refl _ _).alloc (Nat.le_refl _) _
       have hbw := bl_t (bl_t HBU2.out hb) hbx
       have HD2 := Lib.hid hd
       have HS2 := Lib.hid (hd.sml HS1.out)
       have HR2 := Lib.hid ((it_row hr rfl).below (Nat.le_refl _) hbx)
       have HA2 := Lib.hid (Blk.new v2 36 #[.int .i64 p2.code, .string p2.data, .slice C2 p2.names.length x2, .slice E2 p2.ranges.length y2, .int .i64 p2.ino, .int .i64 p2.nd.kind, .int .i64 p2.nd.mode, .int .i64 p2.nd.time, .int .i64 p2.nd.links, .int .i64 p2.nd.size, .string p2.nd.target])
       have HBW2 := Lib.hid hbw
       obtain ⟨r2, hrk⟩ : ∃ r2, r2 = v2.heap.size := ⟨_, rfl⟩
       rw [← hrk] at HA2
       have HRK2 := Lib.hid hrk
       clear hd hr hn hb hbx hbw hrk))
  rw [← HRK2.out]
  generalize v2.alloc (.cells #[.int .i64 p2.code, .string p2.data, .slice C2 p2.names.length x2, .slice E2 p2.ranges.length y2, .int .i64 p2.ino, .int .i64 p2.nd.kind, .int .i64 p2.nd.mode, .int .i64 p2.nd.time, .int .i64 p2.nd.links, .int .i64 p2.nd.size, .string p2.nd.target] 36) = W2 at *
  replace HLW := Lib.hid (HLW.out.below HBW2.out)
  have HBB2 := Lib.hid (bl_t HBB1.out HBW2.out)
  replace HR1 := Lib.hid (HR1.out.below (Nat.le_refl _) HBW2.out)
  replace HA1 := Lib.hid (blk_below HA1.out HBW2.out)
  clear HR2
  have xc1 : W2.cell? ⟨r1, 0, none⟩ = some (.int .i64 p1.code) := HA1.out.cell 0
  have xk2 : W2.cell? ⟨r2, 5, none⟩ = some (.int .i64 p2.nd.kind) := HA2.out.cell 5
  by_cases hc1 : p1.code = 0
  case neg =>
    have hc1' : (p1.code != 0) = true := by simpa using hc1
    clear hc1
    go_wp2_with fail
    go_ret
    exact ⟨rfl, HBB2.out⟩
  by_cases hk2 : p2.nd.kind = 1
  case neg =>
    have hk2' : (p2.nd.kind != 1) = true := by simpa using hk2
    rw [hc1] at xc1
    clear hc1 hk2
    go_wp2_with fail
    go_ret
    exact ⟨rfl, HBB2.out⟩
  have HLAW := Lib.hid (fun p l h => links_law (pc := p) (lm := l) (from_ := from_) (to_ := to_) (data := data) (off := off) HM.out.mid HOFF.out hz3 HD1.out hc1 HD2.out hk2 h)
  rw [hc1] at xc1
  rw [hk2] at xk2
  clear hc1 hk2
  clear HA1
  go_upto_region 10 with (first
    | (go_at_call 15
       refine (lw_own2 HR1.out (by have := HS1.out.few; omega)).mono ?_
       rintro e u3 ⟨B3, t3, rfl, hr, hb⟩
       have HU3 := Lib.hid hr
       have HBU3 := Lib.hid hb
       clear hr hb)
    | (go_at_call 14
       refine (lw_do1 HU3.out HS1.out (by omega) (HLW.out.below HBU3.out) (o := oWrite from_ off data) (HSMALL.out _ _ _ _ _ _ hz1 (by decide : bE.size ≤ 1200) hz3) (⟨HOFF.out, (by decide : -9223372036854775808 ≤ (0 : Int) ∧ (0 : Int) ≤ 9223372036854775807)⟩)).mono ?_
       rintro e v3 hD
       obtain ⟨A3, q3, C3, x3, E3, y3, p3, l3, rfl, hd, hr, hn, hb⟩ := hD
       have hbx : Below v3.heap.size v3 (v3.alloc (.cells #[.int .i64 p3.code, .string p3.data, .slice C3 p3.names.length x3, .slice E3 p3.ranges.length y3, .int .i64 p3.ino, .int .i64 p3.nd.kind, .int .i64 p3.nd.mode, .int .i64 p3.nd.time, .int .i64 p3.nd.links, .int .i64 p3.nd.size, .string p3.nd.target] 36)) := (Below.refl _ _).alloc (Nat.le_refl _) _
       have hbw := bl_t (bl_t HBU3.out hb) hbx
       have HD3 := Lib.hid hd
       have HS3 := Lib.hid (hd.sml HS1.out)
       have HR3 := Lib.hid ((it_row hr rfl).below (Nat.le_refl _) hbx)
       have HA3 := Lib.hid (Blk.new v3 36 #[.int .i64 p3.code, .string p3.data, .slice C3 p3.names.length x3, .slice E3 p3.ranges.length y3, .int .i64 p3.ino, .int .i64 p3.nd.kind, .int .i64 p3.nd.mode, .int .i64 p3.nd.time, .int .i64 p3.nd.links, .int .i64 p3.nd.size, .string p3.nd.target])
       have HBW3 := Lib.hid hbw
       obtain ⟨r3, hrk⟩ : ∃ r3, r3 = v3.heap.size := ⟨_, rfl⟩
       rw [← hrk] at HA3
       have HRK3 := Lib.hid hrk
       clear hd hr hn hb hbx hbw hrk))
  rw [← HRK3.out]
  generalize v3.alloc (.cells #[.int .i64 p3.code, .string p3.data, .slice C3 p3.names.length x3, .slice E3 p3.ranges.length y3, .int .i64 p3.ino, .int .i64 p3.nd.kind, .int .i64 p3.nd.mode, .int .i64 p3.nd.time, .int .i64 p3.nd.links, .int .i64 p3.nd.size, .string p3.nd.target] 36) = W3 at *
  replace HLW := Lib.hid (HLW.out.below HBW3.out)
  have HBB3 := Lib.hid (bl_t HBB2.out HBW3.out)
  replace HR1 := Lib.hid (HR1.out.below (Nat.le_refl _) HBW3.out)
  replace HA2 := Lib.hid (blk_below HA2.out HBW3.out)
  have xc3 : W3.cell? ⟨r3, 0, none⟩ = some (.int .i64 p3.code) := HA3.out.cell 0
  obtain ⟨hno, hyes, hlk⟩ := HLAW.out p3 l3 HD3.out
  have HYES := Lib.hid hyes
  clear hyes HLAW xc1 xk2
  by_cases hc3 : p3.code = 0
  case neg =>
    have hc3' : (p3.code != 0) = true := by simpa using hc3
    have hn3 := hno hc3
    clear hno hc3
    have hw : IntKind.i64.wrap (4611686018427387904 - (data.size : Int)) = 4611686018427387904 - (data.size : Int) := by rw [IntKind.wrap_i64]; omega
    rcases hn3 with ⟨ha, hb⟩ | ⟨ha, hb⟩
    · rw [hb] at xc3 hc3'
      clear hb
      go_wp2_with fail
      go_ret
      exact ⟨rfl, HBB3.out⟩
    · rw [ha] at xc3 hc3'
      have hnn : ¬ off < 0 := by omega
      have hgt : off > 4611686018427387904 - (data.size : Int) := hb
      clear ha hb
      go_wp2_with fail
      go_ret
      exact ⟨rfl, HBB3.out⟩
  rw [hc3] at xc3
  have HC3 := Lib.hid hc3
  have HLK := Lib.hid hlk
  clear hno hc3 hlk
  clear HR1 HA3
  go_upto_region 13 with (first
    | (go_at_call 15
       refine (lw_own2 HR3.out (by have := HS3.out.few; omega)).mono ?_
       rintro e u4 ⟨B4, t4, rfl, hr, hb⟩
       have HU4 := Lib.hid hr
       have HBU4 := Lib.hid hb
       clear hr hb)
    | (go_at_call 14
       refine (lw_do1 HU4.out HS3.out (by omega) (HLW.out.below HBU4.out) (o := oRead to_ off (data.size : Int)) (HSMALL.out _ _ _ _ _ _ hz2 (by decide : bE.size ≤ 1200) (by decide : bE.size ≤ 200)) (⟨HOFF.out, ⟨by show -9223372036854775808 ≤ (data.size : Int); omega, by show (data.size : Int) ≤ 9223372036854775807; omega⟩⟩)).mono ?_
       rintro e v4 hD
       obtain ⟨A4, q4, C4, x4, E4, y4, p4, l4, rfl, hd, hr, hn, hb⟩ := hD
       have hbx : Below v4.heap.size v4 (v4.alloc (.cells #[.int .i64 p4.code, .string p4.data, .slice C4 p4.names.length x4, .slice E4 p4.ranges.length y4, .int .i64 p4.ino, .int .i64 p4.nd.kind, .int .i64 p4.nd.mode, .int .i64 p4.nd.time, .int .i64 p4.nd.links, .int .i64 p4.nd.size, .string p4.nd.target] 36)) := (Below.refl _ _).alloc (Nat.le_refl _) _
       have hbw := bl_t (bl_t HBU4.out hb) hbx
       have HD4 := Lib.hid hd
       have HS4 := Lib.hid (hd.sml HS3.out)
       have HR4 := Lib.hid ((it_row hr rfl).below (Nat.le_refl _) hbx)
       have HA4 := Lib.hid (Blk.new v4 36 #[.int .i64 p4.code, .string p4.data, .slice C4 p4.names.length x4, .slice E4 p4.ranges.length y4, .int .i64 p4.ino, .int .i64 p4.nd.kind, .int .i64 p4.nd.mode, .int .i64 p4.nd.time, .int .i64 p4.nd.links, .int .i64 p4.nd.size, .string p4.nd.target])
       have HBW4 := Lib.hid hbw
       obtain ⟨r4, hrk⟩ : ∃ r4, r4 = v4.heap.size := ⟨_, rfl⟩
       rw [← hrk] at HA4
       have HRK4 := Lib.hid hrk
       clear hd hr hn hb hbx hbw hrk))
  rw [← HRK4.out]
  generalize v4.alloc (.cells #[.int .i64 p4.code, .string p4.data, .slice C4 p4.names.length x4, .slice E4 p4.ranges.length y4, .int .i64 p4.ino, .int .i64 p4.nd.kind, .int .i64 p4.nd.mode, .int .i64 p4.nd.time, .int .i64 p4.nd.links, .int .i64 p4.nd.size, .string p4.nd.target] 36) = W4 at *
  replace HLW := Lib.hid (HLW.out.below HBW4.out)
  have HBB4 := Lib.hid (bl_t HBB3.out HBW4.out)
  replace HA2 := Lib.hid (blk_below HA2.out HBW4.out)
  replace HR3 := Lib.hid (HR3.out.below (Nat.le_refl _) HBW4.out)
  clear HR4
  go_upto_region 14 with (first
    | (go_at_call 15
       refine (lw_own2 HR3.out (by have := HS3.out.few; omega)).mono ?_
       rintro e u5 ⟨B5, t5, rfl, hr, hb⟩
       have HU5 := Lib.hid hr
       have HBU5 := Lib.hid hb
       clear hr hb)
    | (go_at_call 14
       refine (lw_do1 HU5.out HS3.out (by omega) (HLW.out.below HBU5.out) (o := oUnl from_) (HSMALL.out _ _ _ _ _ _ hz1 (by decide : bE.size ≤ 1200) (by decide : bE.size ≤ 200)) (⟨(by decide : -9223372036854775808 ≤ (0 : Int) ∧ (0 : Int) ≤ 9223372036854775807), (by decide : -9223372036854775808 ≤ (0 : Int) ∧ (0 : Int) ≤ 9223372036854775807)⟩)).mono ?_
       rintro e v5 hD
       obtain ⟨A5, q5, C5, x5, E5, y5, p5, l5, rfl, hd, hr, hn, hb⟩ := hD
       have hbx : Below v5.heap.size v5 (v5.alloc (.cells #[.int .i64 p5.code, .string p5.data, .slice C5 p5.names.length x5, .slice E5 p5.ranges.length y5, .int .i64 p5.ino, .int .i64 p5.nd.kind, .int .i64 p5.nd.mode, .int .i64 p5.nd.time, .int .i64 p5.nd.links, .int .i64 p5.nd.size, .string p5.nd.target] 36)) := (Below.refl _ _).alloc (Nat.le_refl _) _
       have hbw := bl_t (bl_t HBU5.out hb) hbx
       have HD5 := Lib.hid hd
       have HS5 := Lib.hid (hd.sml HS3.out)
       have HR5 := Lib.hid ((it_row hr rfl).below (Nat.le_refl _) hbx)
       have HA5 := Lib.hid (Blk.new v5 36 #[.int .i64 p5.code, .string p5.data, .slice C5 p5.names.length x5, .slice E5 p5.ranges.length y5, .int .i64 p5.ino, .int .i64 p5.nd.kind, .int .i64 p5.nd.mode, .int .i64 p5.nd.time, .int .i64 p5.nd.links, .int .i64 p5.nd.size, .string p5.nd.target])
       have HBW5 := Lib.hid hbw
       obtain ⟨r5, hrk⟩ : ∃ r5, r5 = v5.heap.size := ⟨_, rfl⟩
       rw [← hrk] at HA5
       have HRK5 := Lib.hid hrk
       clear hd hr hn hb hbx hbw hrk))
  rw [← HRK5.out]
  generalize v5.alloc (.cells #[.int .i64 p5.code, .string p5.data, .slice C5 p5.names.length x5, .slice E5 p5.ranges.length y5, .int .i64 p5.ino, .int .i64 p5.nd.kind, .int .i64 p5.nd.mode, .int .i64 p5.nd.time, .int .i64 p5.nd.links, .int .i64 p5.nd.size, .string p5.nd.target] 36) = W5 at *
  replace HLW := Lib.hid (HLW.out.below HBW5.out)
  have HBB5 := Lib.hid (bl_t HBB4.out HBW5.out)
  replace HA2 := Lib.hid (blk_below HA2.out HBW5.out)
  replace HR3 := Lib.hid (HR3.out.below (Nat.le_refl _) HBW5.out)
  replace HA4 := Lib.hid (blk_below HA4.out HBW5.out)
  clear HR3
  go_upto_region 15 with (first
    | (go_at_call 15
       refine (lw_own2 HR5.out (by have := HS5.out.few; omega)).mono ?_
       rintro e u6 ⟨B6, t6, rfl, hr, hb⟩
       have HU6 := Lib.hid hr
       have HBU6 := Lib.hid hb
       clear hr hb)
    | (go_at_call 14
       refine (lw_do1 HU6.out HS5.out (by omega) (HLW.out.below HBU6.out) (o := oRead to_ off (data.size : Int)) (HSMALL.out _ _ _ _ _ _ hz2 (by decide : bE.size ≤ 1200) (by decide : bE.size ≤ 200)) (⟨HOFF.out, ⟨by show -9223372036854775808 ≤ (data.size : Int); omega, by show (data.size : Int) ≤ 9223372036854775807; omega⟩⟩)).mono ?_
       rintro e v6 hD
       obtain ⟨A6, q6, C6, x6, E6, y6, p6, l6, rfl, hd, hr, hn, hb⟩ := hD
       have hbx : Below v6.heap.size v6 (v6.alloc (.cells #[.int .i64 p6.code, .string p6.data, .slice C6 p6.names.length x6, .slice E6 p6.ranges.length y6, .int .i64 p6.ino, .int .i64 p6.nd.kind, .int .i64 p6.nd.mode, .int .i64 p6.nd.time, .int .i64 p6.nd.links, .int .i64 p6.nd.size, .string p6.nd.target] 36)) := (Below.refl _ _).alloc (Nat.le_refl _) _
       have hbw := bl_t (bl_t HBU6.out hb) hbx
       have HD6 := Lib.hid hd
       have HS6 := Lib.hid (hd.sml HS5.out)
       have HR6 := Lib.hid ((it_row hr rfl).below (Nat.le_refl _) hbx)
       have HA6 := Lib.hid (Blk.new v6 36 #[.int .i64 p6.code, .string p6.data, .slice C6 p6.names.length x6, .slice E6 p6.ranges.length y6, .int .i64 p6.ino, .int .i64 p6.nd.kind, .int .i64 p6.nd.mode, .int .i64 p6.nd.time, .int .i64 p6.nd.links, .int .i64 p6.nd.size, .string p6.nd.target])
       have HBW6 := Lib.hid hbw
       obtain ⟨r6, hrk⟩ : ∃ r6, r6 = v6.heap.size := ⟨_, rfl⟩
       rw [← hrk] at HA6
       have HRK6 := Lib.hid hrk
       clear hd hr hn hb hbx hbw hrk))
  rw [← HRK6.out]
  generalize v6.alloc (.cells #[.int .i64 p6.code, .string p6.data, .slice C6 p6.names.length x6, .slice E6 p6.ranges.length y6, .int .i64 p6.ino, .int .i64 p6.nd.kind, .int .i64 p6.nd.mode, .int .i64 p6.nd.time, .int .i64 p6.nd.links, .int .i64 p6.nd.size, .string p6.nd.target] 36) = W6 at *
  replace HLW := Lib.hid (HLW.out.below HBW6.out)
  have HBB6 := Lib.hid (bl_t HBB5.out HBW6.out)
  replace HA2 := Lib.hid (blk_below HA2.out HBW6.out)
  replace HA4 := Lib.hid (blk_below HA4.out HBW6.out)
  replace HR5 := Lib.hid (HR5.out.below (Nat.le_refl _) HBW6.out)
  replace HA5 := Lib.hid (blk_below HA5.out HBW6.out)
  clear HR6
  go_upto_region 16 with (first
    | (go_at_call 15
       refine (lw_own2 HR5.out (by have := HS5.out.few; omega)).mono ?_
       rintro e u7 ⟨B7, t7, rfl, hr, hb⟩
       have HU7 := Lib.hid hr
       have HBU7 := Lib.hid hb
       clear hr hb)
    | (go_at_call 14
       refine (lw_do1 HU7.out HS5.out (by omega) (HLW.out.below HBU7.out) (o := oStat to_) (HSMALL.out _ _ _ _ _ _ hz2 (by decide : bE.size ≤ 1200) (by decide : bE.size ≤ 200)) (⟨(by decide : -9223372036854775808 ≤ (0 : Int) ∧ (0 : Int) ≤ 9223372036854775807), (by decide : -9223372036854775808 ≤ (0 : Int) ∧ (0 : Int) ≤ 9223372036854775807)⟩)).mono ?_
       rintro e v7 hD
       obtain ⟨A7, q7, C7, x7, E7, y7, p7, l7, rfl, hd, hr, hn, hb⟩ := hD
       have hbx : Below v7.heap.size v7 (v7.alloc (.cells #[.int .i64 p7.code, .string p7.data, .slice C7 p7.names.length x7, .slice E7 p7.ranges.length y7, .int .i64 p7.ino, .int .i64 p7.nd.kind, .int .i64 p7.nd.mode, .int .i64 p7.nd.time, .int .i64 p7.nd.links, .int .i64 p7.nd.size, .string p7.nd.target] 36)) := (Below.refl _ _).alloc (Nat.le_refl _) _
       have hbw := bl_t (bl_t HBU7.out hb) hbx
       have HD7 := Lib.hid hd
       have HS7 := Lib.hid (hd.sml HS5.out)
       have HR7 := Lib.hid ((it_row hr rfl).below (Nat.le_refl _) hbx)
       have HA7 := Lib.hid (Blk.new v7 36 #[.int .i64 p7.code, .string p7.data, .slice C7 p7.names.length x7, .slice E7 p7.ranges.length y7, .int .i64 p7.ino, .int .i64 p7.nd.kind, .int .i64 p7.nd.mode, .int .i64 p7.nd.time, .int .i64 p7.nd.links, .int .i64 p7.nd.size, .string p7.nd.target])
       have HBW7 := Lib.hid hbw
       obtain ⟨r7, hrk⟩ : ∃ r7, r7 = v7.heap.size := ⟨_, rfl⟩
       rw [← hrk] at HA7
       have HRK7 := Lib.hid hrk
       clear hd hr hn hb hbx hbw hrk))
  rw [← HRK7.out]
  generalize v7.alloc (.cells #[.int .i64 p7.code, .string p7.data, .slice C7 p7.names.length x7, .slice E7 p7.ranges.length y7, .int .i64 p7.ino, .int .i64 p7.nd.kind, .int .i64 p7.nd.mode, .int .i64 p7.nd.time, .int .i64 p7.nd.links, .int .i64 p7.nd.size, .string p7.nd.target] 36) = W7 at *
  replace HLW := Lib.hid (HLW.out.below HBW7.out)
  have HBB7 := Lib.hid (bl_t HBB6.out HBW7.out)
  replace HA2 := Lib.hid (blk_below HA2.out HBW7.out)
  replace HA4 := Lib.hid (blk_below HA4.out HBW7.out)
  replace HR5 := Lib.hid (HR5.out.below (Nat.le_refl _) HBW7.out)
  replace HA5 := Lib.hid (blk_below HA5.out HBW7.out)
  replace HA6 := Lib.hid (blk_below HA6.out HBW7.out)
  obtain ⟨hy1, hy2⟩ := HYES.out HC3.out
  have e4 := hy1 p4 l4 HD4.out
  obtain ⟨e5, hy3, hy4⟩ := hy2 p5 l5 HD5.out
  have e6 := hy3 p6 l6 HD6.out
  obtain ⟨e7, e8⟩ := hy4 p7 l7 HD7.out
  have z4 : W7.cell? ⟨r4, 1, none⟩ = some (.string p4.data) := HA4.out.cell 1
  have z5 : W7.cell? ⟨r5, 0, none⟩ = some (.int .i64 p5.code) := HA5.out.cell 0
  have z6 : W7.cell? ⟨r6, 1, none⟩ = some (.string p6.data) := HA6.out.cell 1
  have z7 : W7.cell? ⟨r7, 4, none⟩ = some (.int .i64 p7.ino) := HA7.out.cell 4
  have z8 : W7.cell? ⟨r7, 8, none⟩ = some (.int .i64 p7.nd.links) := HA7.out.cell 8
  have z2 : W7.cell? ⟨r2, 4, none⟩ = some (.int .i64 p2.ino) := HA2.out.cell 4
  have z3 : W7.cell? ⟨r2, 8, none⟩ = some (.int .i64 p2.nd.links) := HA2.out.cell 8
  rw [e4] at z4
  rw [e5] at z5
  rw [e6] at z6
  rw [e7] at z7
  rw [e8] at z8
  have hlk := HLK.out
  have hw : IntKind.i64.wrap (p2.nd.links - 1) = p2.nd.links - 1 := by rw [IntKind.wrap_i64]; omega
  clear hy1 hy2 hy3 hy4 e4 e5 e6 e7 e8 xc3
  go_wp2_with fail
  go_ret
  exact ⟨rfl, HBB7.out⟩
end Go.Proofs.YtpboohfofodeeaaGreatDoor
