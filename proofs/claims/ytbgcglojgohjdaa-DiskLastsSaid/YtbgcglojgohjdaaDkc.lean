/- Writes and flushes of a disk (conditions: the disk is one of its package's make). -/
import Derived.Test.YtbgcglojgohjdaaDkb
namespace Go.Proofs.Ytbgcglojgohjdaa
open Go.RowKit Go.Maps

def dcells (size : Int) (mf mn : Nat) (ov : Value) (lim : Bool) (left : Int) (down : Bool) : Array Value :=
  #[.int .i64 size, .map (some mf), .map (some mn), ov, .bool lim, .int .i64 left, .bool down]

/-- A write that is done. -/
def WroteW (base a mf mn m : Nat) (size left n : Int) (lim : Bool) (f : Int → Option Value) (ov : Value) (xs : List Value) (s : ByteArray) (w : World) (e : Ending) (w' : World) : Prop :=
  e = .returned (.int .i64 0) ∧ ∃ ov' nn', Blk w' a 57 (dcells size mf mn ov' lim (wrap64 (left - 1)) false) ∧ MapI Try.prog 3 w' mn (upd f n (.string s)) nn' ∧
    w'.ownsRow base 61 2 ov' (m + 1) (xs ++ [.int .i64 n, .string s]) ∧ Keep (fun i => i = a ∨ i = mn ∨ some i = ov.ownBlock) w w' ∧ (ov'.ownBlock = ov.ownBlock ∨ ∃ k, ov'.ownBlock = some k ∧ w.heap.size ≤ k)

section
variable {base a mf mn nn m : Nat} {w : World} {f : Int → Option Value} {size left n : Int} {lim : Bool} {ov : Value} {xs : List Value} {s : ByteArray}

theorem dk_write_err (e0 : Int) (he : (e0 == 0) = false) (w1 : World) (hp : Calls Try.prog 26 #[Pa a] w fun e w' => e = .returned (.int .i64 e0) ∧ w1 = w') :
    Calls Try.prog 12 #[Pa a, .int .i64 n, .string s] w fun e w' => e = .returned (.int .i64 e0) ∧ w1 = w' := by
  have he2 : (e0 != 0) = true := by simpa using he
  have H := Lib.hid hp; clear hp
  go_enter Try.func12, Try.ntmps12
  go_wp2_with (go_at_call 26; refine H.out.mono ?_; rintro e w' ⟨rfl, rfl⟩)
  go_ret
  exact ⟨rfl, rfl⟩

theorem dk_write_sector (hp : Calls Try.prog 26 #[Pa a] w fun e w' => e = .returned (.int .i64 0) ∧ w = w') (c0 : w.cell? ⟨a, 0, none⟩ = some (.int .i64 size)) (h : n < 0 ∨ size ≤ n) :
    Calls Try.prog 12 #[Pa a, .int .i64 n, .string s] w fun e w' => e = .returned (.int .i64 31) ∧ w = w' := by
  have H := Lib.hid hp; clear hp
  by_cases h0 : n < 0
  all_goals
    go_enter Try.func12, Try.ntmps12
    go_wp2_with (go_at_call 26; refine H.out.mono ?_; rintro e w' ⟨rfl, rfl⟩)
    go_ret
    exact ⟨rfl, rfl⟩

theorem dk_write_size (hp : Calls Try.prog 26 #[Pa a] w fun e w' => e = .returned (.int .i64 0) ∧ w = w') (c0 : w.cell? ⟨a, 0, none⟩ = some (.int .i64 size)) (h0 : 0 ≤ n) (h1 : n < size) (hs : (s.size == 1024) = false) (hw : s.size ≤ maxLen) :
    Calls Try.prog 12 #[Pa a, .int .i64 n, .string s] w fun e w' => e = .returned (.int .i64 32) ∧ w = w' := by
  have H := Lib.hid hp; clear hp
  have hs2 : ((s.size : Int) != 1024) = true := by simp at hs ⊢; omega
  have hs3 : ((s.size : Int) == 1024) = false := by simp at hs ⊢; omega
  have hw2 : s.size ≤ 9223372036854775807 := hw
  clear hw
  go_enter Try.func12, Try.ntmps12
  go_wp2_with (go_at_call 26; refine H.out.mono ?_; rintro e w' ⟨rfl, rfl⟩)
  go_ret
  exact ⟨rfl, rfl⟩

theorem dk_write_ok (hp : Calls Try.prog 26 #[Pa a] w fun e w' => e = .returned (.int .i64 0) ∧ w = w')
    (hblk : Blk w a 57 (dcells size mf mn ov lim left false)) (hn : MapI Try.prog 3 w mn f nn) (hown : w.ownsRow base 61 2 ov m xs) (hbase : base ≤ w.heap.size)
    (h0 : 0 ≤ n) (h1 : n < size) (hsz : size ≤ 4096) (hs : s.size = 1024) (hnn : nn < maxLen) (hm : m ≤ 1000000) :
    Calls Try.prog 12 #[Pa a, .int .i64 n, .string s] w (WroteW base a mf mn m size left n lim f ov xs s w) := by
  obtain ⟨i0, hi, hz0, hz1, hz2⟩ := info_parts info_write
  have H := Lib.hid hp; clear hp
  have hs2 : ((s.size : Int) != 1024) = false := by simp; omega
  have hs3 : ((s.size : Int) == 1024) = true := by simp; omega
  clear hs
  have hmne := hn.blk_ne hblk
  have hmo := hn.own_ne hown
  have hbo := own_blk_ne hown hblk (by decide)
  have c0 : w.cell? ⟨a, 0, none⟩ = some (.int .i64 size) := hblk.cell 0
  have c2 : w.cell? ⟨a, 2, none⟩ = some (.map (some mn)) := hblk.cell 2
  have c3 : w.cell? ⟨a, 3, none⟩ = some ov := hblk.cell 3
  have c5 : w.cell? ⟨a, 5, none⟩ = some (.int .i64 left) := hblk.cell 5
  have f5 := hblk.frozen 5
  have hb1 := hblk.set_ 5 (.int .i64 (wrap64 (left - 1)))
  have hn1 := hn.setCell (p := ⟨a, 5, none⟩) hmne (.int .i64 (wrap64 (left - 1)))
  have ho1 := own_keep hown ((Keep.refl (fun i => i = a) w).setCell (p := ⟨a, 5, none⟩) (.inl rfl) (.int .i64 (wrap64 (left - 1)))) (fun k hk he => hbo (by rw [hk, he]))
  have HB := Lib.hid hb1; clear hb1
  have HN := Lib.hid hn1; clear hn1
  have HO := Lib.hid ho1; clear ho1
  have HX := Lib.hid hown; clear hown
  go_enter Try.func12, Try.ntmps12
  go_wp2_with (first
    | (go_at_call 26; refine H.out.mono ?_; rintro e w' ⟨rfl, rfl⟩)
    | (at_mapUpdate
       refine wpList_mapI_store _ rfl _ _ _ 54 rfl 9 un_int Try.underlying54 rfl HN.out hnn n (WalkArith.wf_i64 (by omega)) (.string s) rfl rfl ?_
       intro w1 hn1 hk1 hz
       have HQ1 : Hid (w1.heap.size = w.heap.size) := by simpa [Hid] using hz
       clear hz
       have hb1 := HB.out.keep hk1 (fun h => hmne h.symm)
       have ho1 := own_keep HO.out hk1 (fun k hk he => hmo (by rw [hk, he]))
       have d3 : w1.cell? ⟨a, 3, none⟩ = some ov := hb1.cell 3
       have g3 := hb1.frozen 3
       have hk2 : Keep (fun i => i = a ∨ i = mn ∨ some i = ov.ownBlock) w w1 := ((Keep.refl _ w).setCell (p := ⟨a, 5, none⟩) (.inl (.inl rfl)) (.int .i64 (wrap64 (left - 1)))).trans hk1 (fun i _ h => .inr (.inl h))
       have HB1 := Lib.hid hb1; clear hb1
       have HN1 := Lib.hid hn1; clear hn1
       have HO1 := Lib.hid ho1; clear ho1
       have HK1 := Lib.hid hk2; clear hk2 hk1)
    | (at_builtin
       refine wpList_append_own_at _ rfl _ _ 55 rfl base 61 i0 (.agg #[.int .i64 0, .string ⟨#[]⟩]) 2 24 Try.underlying55 hi hz0 hz1 hz2 rfl (by decide) ov m xs rfl
         (HO1.out.alloc _) ⟨w1.heap.size, 0, none⟩ 1 1 [.int .i64 n, .string s] rfl rfl ?c1 ?c2 ?c3 ?c4 ?c5 ?_
       case c1 => exact World.news_of_block (heap_alloc_new w1 _)
       case c2 => simp [Value.oneCell']
       case c3 => unfold maxLen; omega
       case c4 => omega
       case c5 => have := HQ1.out; simp; omega
       intro v2 w2 hown2 hg2 _ hat2
       obtain ⟨A2, q2, rfl⟩ := own_slice hown2
       have hkk : Keep (fun i => some i = ov.ownBlock) w1 w2 := ((Keep.refl _ w1).alloc _).grown hg2 (fun k hk => .inl hk.symm)
       have hb2 := HB1.out.keep hkk (fun h => hbo h.symm)
       have d32 : w2.cell? ⟨a, 3, none⟩ = some ov := hb2.cell 3
       have g32 := hb2.frozen 3
       have hn2 := HN1.out.keep hkk (fun h => hmo h.symm)
       have hk2 := HK1.out.trans hkk (fun i _ h => .inr (.inr h))
       have HB2 := Lib.hid hb2; clear hb2
       have HN2 := Lib.hid hn2; clear hn2
       have HO2 := Lib.hid hown2; clear hown2
       have HA2 := Lib.hid hat2; clear hat2
       have HK2 := Lib.hid hk2; clear hk2 hkk hg2))
  go_ret
  generalize Value.slice A2 (m + 1) q2 = v2 at *
  have hA : v2.ownBlock = ov.ownBlock ∨ ∃ k, v2.ownBlock = some k ∧ w.heap.size ≤ k := by
    rcases HA2.out with h | h
    · exact .inl h
    · exact .inr ⟨_, h, by have := HQ1.out; simp; omega⟩
  have hv2 : v2.ownBlock ≠ some a := own_blk_ne HO2.out HB2.out (by decide)
  refine ⟨rfl, v2, _, HB2.out.set_ 3 v2, HN2.out.setCell hmne v2, ?_, HK2.out.setCell (.inl (.inl rfl)) v2, hA⟩
  exact own_keep HO2.out ((Keep.refl (fun i => i = a) w2).setCell (p := ⟨a, 3, none⟩) (.inl rfl) v2) (fun k hk he => hv2 (by rw [hk, he]))
end
end Go.Proofs.Ytbgcglojgohjdaa
