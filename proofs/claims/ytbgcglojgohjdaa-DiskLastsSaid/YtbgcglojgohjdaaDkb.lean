/- More calls of package disk: reads and writes (conditions: the disk is one of its package's make). -/
import Derived.Test.YtbgcglojgohjdaaDk
import Derived.Laws.BytesArg
import Derived.Deep.OwnRows
namespace Go.Proofs.Ytbgcglojgohjdaa
open Go.RowKit Go.Maps

/-- A sector's zeros. -/
def zb : ByteArray := strOfNums (List.replicate 1024 0)
theorem zb_size : zb.size = 1024 := by unfold zb; rw [strOfNums_size, List.length_replicate]

theorem info_u8 : (Try.prog.info? 5).map (fun i => (i.zero, i.size, i.bytes)) = some (some (.int .u8 0), 1, 1) := by kernel_rfl
theorem info_write : (Try.prog.info? 61).map (fun i => (i.zero, i.size, i.bytes)) = some (some (.agg #[.int .i64 0, .string ⟨#[]⟩]), 2, 24) := by kernel_rfl

theorem conv_zeros (b : Nat) (w : World) (h : w.heap[b]? = some (.cells (madeCells #[.int .u8 0] 1024) 5 (0, 0))) :
    (convert 62 9 (.slice (some ⟨b, 0, none⟩) 1024 1024)).run Try.prog w = .ok (.string zb) w := by
  refine run_convert_bytes_arg w 62 5 Try.underlying62 Try.underlying5 b 0 1024 1024 (List.replicate 1024 0) List.length_replicate (fun i hi => ?_) 9 Try.underlying9
  rw [cell_of_row w b (0 + i) _ _ (0, 0) h]
  simp only [madeCells, Nat.zero_add, List.getD_eq_getElem?_getD, List.getElem?_replicate, hi, if_true, Array.getElem?_map, Array.getElem?_range, Option.map_some, Option.getD_some]
  simp [Nat.mod_one]

theorem mk_zeros : ∀ W : World, (Instr.makeSlice 62 (.int .i64 1024) (.int .i64 1024)).run Try.prog W = .ok (.slice (some ⟨W.heap.size, 0, none⟩) 1024 1024) (W.alloc (.cells (madeCells #[.int .u8 0] 1024) 5)) :=
  fun W => run_make_row' 62 5 (.int .u8 0) 1 Try.underlying62 info_u8 rfl .i64 .i64 1024 (by omega) (by omega) W

theorem dk_zeros (w : World) : Calls Try.prog 25 #[] w fun e w' => e = .returned (.string zb) ∧ Below w.heap.size w w' := by
  have hmk := mk_zeros
  have hcv := conv_zeros w.heap.size (w.alloc (.cells (madeCells #[.int .u8 0] 1024) 5)) (heap_alloc_new w _)
  go_enter Try.func25, Try.ntmps25
  go_wp2
  go_ret
  exact ⟨rfl, (Below.refl _ _).alloc (Nat.le_refl _) _⟩

def strO (f : Int → Option ByteArray) : Int → Option Value := fun k => (f k).map Value.string
theorem zero_str (w : World) : (zeroValue 9).run Try.prog w = .ok (.string ⟨#[]⟩) w := by kernel_rfl

section
variable {a mf mn nf nn : Nat} {w : World} {fl nw : Int → Option ByteArray} {size n : Int}

theorem dk_read_down (c6 : w.cell? ⟨a, 6, none⟩ = some (.bool true)) :
    Calls Try.prog 11 #[Pa a, .int .i64 n] w fun e w' => e = .returned (.tuple #[.string ⟨#[]⟩, .int .i64 30]) ∧ w = w' := by
  go_enter Try.func11, Try.ntmps11
  go_wp2
  go_ret2
  exact ⟨rfl, rfl⟩

theorem dk_read_sector (c6 : w.cell? ⟨a, 6, none⟩ = some (.bool false)) (c0 : w.cell? ⟨a, 0, none⟩ = some (.int .i64 size)) (h : n < 0 ∨ size ≤ n) :
    Calls Try.prog 11 #[Pa a, .int .i64 n] w fun e w' => e = .returned (.tuple #[.string ⟨#[]⟩, .int .i64 31]) ∧ w = w' := by
  rcases h with h | h
  · go_enter Try.func11, Try.ntmps11
    go_wp2
    go_ret2
    exact ⟨rfl, rfl⟩
  · by_cases h0 : n < 0
    all_goals
      go_enter Try.func11, Try.ntmps11
      go_wp2
      go_ret2
      exact ⟨rfl, rfl⟩

theorem dk_read_ok (c6 : w.cell? ⟨a, 6, none⟩ = some (.bool false)) (c0 : w.cell? ⟨a, 0, none⟩ = some (.int .i64 size)) (c1 : w.cell? ⟨a, 1, none⟩ = some (.map (some mf))) (c2 : w.cell? ⟨a, 2, none⟩ = some (.map (some mn)))
    (hf : MapI Try.prog 3 w mf (strO fl) nf) (hn : MapI Try.prog 3 w mn (strO nw) nn) (h0 : 0 ≤ n) (h1 : n < size) (hs : size ≤ 4096) :
    Calls Try.prog 11 #[Pa a, .int .i64 n] w fun e w' => e = .returned (.tuple #[.string (((nw n).or (fl n)).getD zb), .int .i64 0]) ∧ Below w.heap.size w w' := by
  have l1 := hn.look un_int Try.underlying54 (zero_str w) true n (WalkArith.wf_i64 (by omega))
  have l2 := hf.look un_int Try.underlying54 (zero_str w) true n (WalkArith.wf_i64 (by omega))
  clear hf hn
  unfold strO at l1 l2
  cases hnw : nw n with
  | some s =>
    rw [hnw] at l1
    simp only [Option.map_some, Option.getD_some, Option.isSome_some, if_true] at l1
    clear l2 hnw
    go_enter Try.func11, Try.ntmps11
    go_wp2
    go_ret2
    exact ⟨rfl, Below.refl _ _⟩
  | none =>
    rw [hnw] at l1
    simp only [Option.map_none, Option.getD_none, Option.isSome_none, if_true] at l1
    clear hnw
    cases hfl : fl n with
    | some s =>
      rw [hfl] at l2
      simp only [Option.map_some, Option.getD_some, Option.isSome_some, if_true] at l2
      clear hfl
      go_enter Try.func11, Try.ntmps11
      go_wp2
      go_ret2
      exact ⟨rfl, Below.refl _ _⟩
    | none =>
      rw [hfl] at l2
      simp only [Option.map_none, Option.getD_none, Option.isSome_none, if_true] at l2
      clear hfl
      go_enter Try.func11, Try.ntmps11
      go_wp2_with (go_at_call 25; refine (dk_zeros _).mono ?_; rintro e w' ⟨rfl, hb⟩)
      go_ret2
      exact ⟨rfl, hb⟩
end
end Go.Proofs.Ytbgcglojgohjdaa
