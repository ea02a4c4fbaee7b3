/- The law's own helpers: a sector's bytes (conditions: none). -/
import Derived.Test.YtbgcglojgohjdaaDs
namespace Go.Proofs.Ytbgcglojgohjdaa
open Go.RowKit Go.Maps

/-- The first k numbers of a sector that has a up to its half and b behind. -/
def datN (a b : Int) (k : Nat) : List Int := List.replicate (min k 512) a ++ List.replicate (k - 512) b
def dat (a b : Int) : ByteArray := strOfNums (datN a b 1024)
theorem datN_length (a b : Int) (k : Nat) : (datN a b k).length = k := by unfold datN; simp; omega
theorem dat_size (a b : Int) : (dat a b).size = 1024 := by unfold dat; rw [strOfNums_size, datN_length]
theorem datN_lo (a b : Int) (k : Nat) (h : k < 512) : datN a b (k + 1) = datN a b k ++ [a] := by
  unfold datN
  rw [show min (k + 1) 512 = k + 1 by omega, show k + 1 - 512 = 0 by omega, show min k 512 = k by omega, show k - 512 = 0 by omega, List.replicate_succ']
  simp
theorem datN_hi (a b : Int) (k : Nat) (h : ¬ k < 512) : datN a b (k + 1) = datN a b k ++ [b] := by
  unfold datN
  rw [show min (k + 1) 512 = 512 by omega, show k + 1 - 512 = (k - 512) + 1 by omega, show min k 512 = 512 by omega, List.append_assoc, ← List.replicate_succ']
def bcs (l : List Int) : List Value := l.map (Value.int .u8)

theorem conv_own {w : World} {base n : Nat} {v : Value} {l : List Int} (h : w.ownsRow base 5 1 v n (bcs l)) (hn : 0 < n) : (convert 62 9 v).run Try.prog w = .ok (.string (strOfNums l)) w := by
  obtain ⟨g, cap, rfl, _⟩ := h.form (by omega)
  have hl : l.length = n := by have := h.1; simpa [bcs] using this
  refine run_convert_bytes_arg w 62 5 Try.underlying62 Try.underlying5 g 0 n cap l hl (fun i hi => ?_) 9 Try.underlying9
  have hi' : i < l.length := by omega
  have hc := h.cells (g := g) rfl i (.int .u8 (l.getD i 0)) (by unfold bcs; rw [List.getElem?_map, List.getD_eq_getElem?_getD, List.getElem?_eq_getElem hi']; rfl)
  have e : (⟨g, 0, none⟩ : Addr).add i = ⟨g, 0 + i, none⟩ := by unfold Addr.add; split <;> simp_all
  rw [← e]; exact hc

set_option maxHeartbeats 1000000 in
set_option maxRecDepth 100000 in
theorem law_data (a b : Int) (w : World) : Calls Try.prog 13 #[.int .u8 a, .int .u8 b] w fun e w' => e = .returned (.string (dat a b)) ∧ Below w.heap.size w w' := by
  obtain ⟨i0, hi, hz0, hz1, hz2⟩ := info_parts info_u8
  go_enter Try.func13, Try.ntmps13
  go_wp2
  go_loopw [5, 6] (fun v i wr => ∃ k : Nat, k ≤ 1024 ∧ i = .int .i64 k ∧ wr.ownsRow w.heap.size 5 1 v k (bcs (datN a b k)) ∧ Below w.heap.size w wr) (fun _ i _ => 1024 - (intOf i).toNat)
  case atStart => exact ⟨0, by omega, rfl, ⟨rfl, .inl ⟨rfl, rfl⟩⟩, Below.refl _ _⟩
  case round =>
    rename_i v0 i1 wr
    obtain ⟨k, hk, rfl, ho, hb⟩ := hrel
    have HO := Lib.hid ho; clear ho
    have hbs := hb.size
    have HB := Lib.hid hb; clear hb
    by_cases hlt : k < 1024
    · by_cases h5 : k < 512
      · have hd := datN_lo a b k h5
        have HD := Lib.hid hd; clear hd
        go_wp2_with (first
          | (at_builtin
             refine wpList_append_own _ rfl _ _ 62 rfl w.heap.size 5 i0 (.int .u8 0) 1 1 Try.underlying62 hi hz0 hz1 hz2 rfl (by decide) _ k _ rfl
               (HO.out.alloc _) ⟨wr.heap.size, 0, none⟩ 1 1 [.int .u8 a] rfl rfl ?c1 ?c2 ?c3 ?c4 ?c5 ?_
             case c1 => exact World.news_of_block (heap_alloc_new wr _)
             case c2 => simp [Value.oneCell']
             case c3 => unfold maxLen; omega
             case c4 => omega
             case c5 => simp; omega
             intro v2 w2 hown2 hg2 _
             have hb2 := (HB.out.alloc hbs (.cells #[.int .u8 a] 5)).grown hg2 (by simp; omega) (fun k hk => (HO.out.lt k hk).1)
             have HO2 := Lib.hid hown2; clear hown2
             have HB2 := Lib.hid hb2; clear hb2 hg2))
        go_roundw
        case rel =>
          refine ⟨k + 1, by omega, by go_num, ?_, HB2.out⟩
          have := HO2.out
          rw [HD.out]
          simpa [bcs] using this
        case measure => simp [intOf]; omega
      · have hd := datN_hi a b k h5
        have HD := Lib.hid hd; clear hd
        go_wp2_with (first
          | (at_builtin
             refine wpList_append_own _ rfl _ _ 62 rfl w.heap.size 5 i0 (.int .u8 0) 1 1 Try.underlying62 hi hz0 hz1 hz2 rfl (by decide) _ k _ rfl
               (HO.out.alloc _) ⟨wr.heap.size, 0, none⟩ 1 1 [.int .u8 b] rfl rfl ?c1 ?c2 ?c3 ?c4 ?c5 ?_
             case c1 => exact World.news_of_block (heap_alloc_new wr _)
             case c2 => simp [Value.oneCell']
             case c3 => unfold maxLen; omega
             case c4 => omega
             case c5 => simp; omega
             intro v2 w2 hown2 hg2 _
             have hb2 := (HB.out.alloc hbs (.cells #[.int .u8 b] 5)).grown hg2 (by simp; omega) (fun k hk => (HO.out.lt k hk).1)
             have HO2 := Lib.hid hown2; clear hown2
             have HB2 := Lib.hid hb2; clear hb2 hg2))
        go_roundw
        case rel =>
          refine ⟨k + 1, by omega, by go_num, ?_, HB2.out⟩
          have := HO2.out
          rw [HD.out]
          simpa [bcs] using this
        case measure => simp [intOf]; omega
    · have hk2 : k = 1024 := by omega
      subst hk2
      have hcv := conv_own HO.out (by omega)
      go_wp2
      go_ret
      exact ⟨rfl, HB.out⟩
end Go.Proofs.Ytbgcglojgohjdaa
