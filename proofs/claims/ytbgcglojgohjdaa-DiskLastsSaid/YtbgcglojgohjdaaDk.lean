/- The calls of package disk, each by what it does to a disk in memory (conditions: the disk is one of its package's make). -/
import Derived.Test.YtbgcglojgohjdaaKp
import Derived.Test.YtbgcglojgohjdaaRows
namespace Go.Proofs.Ytbgcglojgohjdaa
open Go.RowKit Go.Maps

theorem un_int : Try.prog.underlying 3 = some (.int .i64) := Try.underlying3
abbrev Pa (a : Nat) : Value := .pointer (some ⟨a, 0, none⟩)

theorem dk_sectors (a : Nat) (n : Int) (w : World) (c0 : w.cell? ⟨a, 0, none⟩ = some (.int .i64 n)) :
    Calls Try.prog 24 #[Pa a] w fun e w' => e = .returned (.int .i64 n) ∧ w = w' := by
  go_enter Try.func24, Try.ntmps24
  go_wp2
  go_ret
  exact ⟨rfl, rfl⟩

theorem dk_power_gone (a : Nat) (w : World) (c6 : w.cell? ⟨a, 6, none⟩ = some (.bool true)) :
    Calls Try.prog 26 #[Pa a] w fun e w' => e = .returned (.int .i64 30) ∧ w = w' := by
  go_enter Try.func26, Try.ntmps26
  go_wp2
  go_ret
  exact ⟨rfl, rfl⟩

theorem dk_power_goes (a : Nat) (w : World) (c6 : w.cell? ⟨a, 6, none⟩ = some (.bool false)) (c4 : w.cell? ⟨a, 4, none⟩ = some (.bool true)) (c5 : w.cell? ⟨a, 5, none⟩ = some (.int .i64 0)) (f6 : w.frozen? ⟨a, 6, none⟩ = false) :
    Calls Try.prog 26 #[Pa a] w fun e w' => e = .returned (.int .i64 30) ∧ w.setCell ⟨a, 6, none⟩ (.bool true) = w' := by
  go_enter Try.func26, Try.ntmps26
  go_wp2
  go_ret
  exact ⟨rfl, rfl⟩

theorem dk_power_stays (a : Nat) (w : World) (c6 : w.cell? ⟨a, 6, none⟩ = some (.bool false)) (c4 : w.cell? ⟨a, 4, none⟩ = some (.bool false)) :
    Calls Try.prog 26 #[Pa a] w fun e w' => e = .returned (.int .i64 0) ∧ w = w' := by
  go_enter Try.func26, Try.ntmps26
  go_wp2
  go_ret
  exact ⟨rfl, rfl⟩

theorem dk_power_left (a : Nat) (l : Int) (w : World) (c6 : w.cell? ⟨a, 6, none⟩ = some (.bool false)) (c4 : w.cell? ⟨a, 4, none⟩ = some (.bool true)) (c5 : w.cell? ⟨a, 5, none⟩ = some (.int .i64 l)) (hl : (l == 0) = false) :
    Calls Try.prog 26 #[Pa a] w fun e w' => e = .returned (.int .i64 0) ∧ w = w' := by
  go_enter Try.func26, Try.ntmps26
  go_wp2
  go_ret
  exact ⟨rfl, rfl⟩

theorem dk_new_bad (n : Int) (w : World) (h : n < 1 ∨ 4096 < n) :
    Calls Try.prog 17 #[.int .i64 n] w fun e w' => e = .returned (.tuple #[.pointer none, .int .i64 1]) ∧ w = w' := by
  rcases h with h | h
  · go_enter Try.func17, Try.ntmps17
    go_wp2
    go_ret2
    exact ⟨rfl, rfl⟩
  · go_enter Try.func17, Try.ntmps17
    go_wp2
    go_ret2
    exact ⟨rfl, rfl⟩

theorem dk_new_ok (n : Int) (w : World) (h1 : 1 ≤ n) (h2 : n ≤ 4096) :
    Calls Try.prog 17 #[.int .i64 n] w fun e w' => e = .returned (.tuple #[.pointer (some ⟨w.heap.size + 2, 0, none⟩), .int .i64 0]) ∧
      ((w.alloc (.map #[] 0)).alloc (.map #[] 0)).alloc (.cells #[.int .i64 n, .map (some w.heap.size), .map (some (w.heap.size + 1)), .slice none 0 0, .bool false, .int .i64 0, .bool false] 57) = w' := by
  have hmm := @run_makeMap Try.prog
  go_enter Try.func17, Try.ntmps17
  go_wp2
  go_ret2
  exact ⟨rfl, rfl⟩

theorem dk_down (a : Nat) (b : Bool) (w : World) (c6 : w.cell? ⟨a, 6, none⟩ = some (.bool b)) :
    Calls Try.prog 16 #[Pa a] w fun e w' => e = .returned (.bool b) ∧ w = w' := by
  go_enter Try.func16, Try.ntmps16
  go_wp2
  go_ret
  exact ⟨rfl, rfl⟩

theorem dk_open (a : Nat) (A : Option Addr) (n c : Nat) (w : World) (c3 : w.cell? ⟨a, 3, none⟩ = some (.slice A n c)) :
    Calls Try.prog 15 #[Pa a] w fun e w' => e = .returned (.int .i64 n) ∧ w = w' := by
  go_enter Try.func15, Try.ntmps15
  go_wp2
  go_ret
  exact ⟨rfl, rfl⟩

theorem dk_setpower_down (a : Nat) (n : Int) (w : World) (c6 : w.cell? ⟨a, 6, none⟩ = some (.bool true)) :
    Calls Try.prog 18 #[Pa a, .int .i64 n] w fun e w' => e = .returned (.tuple #[]) ∧ w = w' := by
  go_enter Try.func18, Try.ntmps18
  go_wp2
  go_end0
  exact ⟨rfl, rfl⟩

theorem dk_setpower (a : Nat) (n l : Int) (b : Bool) (w : World) (c6 : w.cell? ⟨a, 6, none⟩ = some (.bool false)) (c4 : w.cell? ⟨a, 4, none⟩ = some (.bool b)) (c5 : w.cell? ⟨a, 5, none⟩ = some (.int .i64 l)) (f4 : w.frozen? ⟨a, 4, none⟩ = false) (f5 : w.frozen? ⟨a, 5, none⟩ = false) :
    Calls Try.prog 18 #[Pa a, .int .i64 n] w fun e w' => e = .returned (.tuple #[]) ∧ (w.setCell ⟨a, 4, none⟩ (.bool (decide (0 ≤ n)))).setCell ⟨a, 5, none⟩ (.int .i64 n) = w' := by
  go_enter Try.func18, Try.ntmps18
  go_wp2
  go_end0
  exact ⟨rfl, rfl⟩
end Go.Proofs.Ytbgcglojgohjdaa
