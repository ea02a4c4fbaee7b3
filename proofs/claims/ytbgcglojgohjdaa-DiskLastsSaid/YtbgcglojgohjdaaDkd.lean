/- maps.Clone, maps.Copy, slices.Clone at a disk's types; Flush (conditions: the disk is one of its package's make). -/
import Derived.Test.YtbgcglojgohjdaaDkc
import Derived.StillTailTactics
import Derived.Laws.Externs
import Derived.Maps.Ext
import Derived.Lib.SlMapMerge
namespace Go.Proofs.Ytbgcglojgohjdaa
open Go.RowKit Go.Maps

section
variable {P : Program} (w : World)
theorem run_equalIn_mapnil (d : Nat) (t k e : TypeId) (p : Option Nat) (h : P.underlying t = some (.map k e)) :
    (Op.equalIn (d + 1) t (.map p) (.map none)).run P w = .ok p.isNone w := by
  cases p <;> simp [Op.equalIn, run_underlying h]
theorem run_eql_mapnil (t k e : TypeId) (p : Option Nat) (h : P.underlying t = some (.map k e)) :
    (binOp .eql t (.map p) (.map none)).run P w = .ok (.bool p.isNone) w := by
  simp only [binOp]
  simp [show Op.equal t (.map p) (.map none) = Op.equalIn (9999 + 1) t (.map p) (.map none) from rfl, run_equalIn_mapnil w 9999 t k e p h]
theorem run_typeAssert_map (t xT k e : TypeId) (v : Value) (h : P.underlying t = some (.map k e)) : (Instr.typeAssert (.iface t v) xT t false).run P w = .ok v w := by
  simp [Instr.typeAssert, run_underlying h, go_sem, Result.andThen]
theorem run_maps_clone {r : Nat} {es : Array MapEntry} {clock : Nat} (t : TypeId) (hb : w.heap[r]? = some (.map es clock)) :
    (Extern.MapsClone.clone #[.iface t (.map (some r))]).run P w = .ok (.iface t (.map (some w.heap.size))) (w.alloc (.map es clock)) := by
  have e : Extern.MapsClone.clone #[.iface t (.map (some r))] = (getObj r >>= fun o => match o with
      | .map entries clock => (newObj (.map entries clock) >>= fun n => pure (.iface t (.map (some n))))
      | _ => stuck "maps.clone: a map expected") := rfl
  rw [e]
  simp [MapKept.run_getObj_map hb, Result.andThen, go_sem]
end

theorem mp_clone {w : World} {b n : Nat} {f : Int → Option Value} (h : MapI Try.prog 3 w b f n) :
    Calls Try.prog 27 #[.map (some b)] w fun e w' => e = .returned (.map (some w.heap.size)) ∧ MapI Try.prog 3 w' w.heap.size f n ∧ Below w.heap.size w w' ∧ w'.heap.size = w.heap.size + 1 := by
  obtain ⟨D, ⟨es, clock, hb, F, hs, hD⟩, h2, h3⟩ := h
  have hq := fun w => run_eql_mapnil (P := Try.prog) w 54 _ _ (some b) Try.underlying54
  go_enter Try.func27, Try.ntmps27
  go_wp2
  rw [run_callFunc_extern Try.func37 (by kernel_rfl) (by kernel_rfl) (by kernel_rfl) (e := Extern.MapsClone.clone) (by kernel_rfl), run_maps_clone w 54 hb]
  simp only [Result.andThen]
  rw [Oper.upon_value]
  go_wp2
  rw [run_typeAssert_map _ 54 20 _ _ _ Try.underlying54]
  simp only [Result.andThen]
  rw [Oper.upon_value]
  go_wp2
  go_ret
  exact ⟨rfl, ⟨D, ⟨es, clock, (MapKept.heap_alloc w _).1, F, hs, hD⟩, h2, h3⟩, (Below.refl _ _).alloc (Nat.le_refl _) _, by simp⟩

theorem valAt_merged {Dout Dd Ds : DataW Value} {left : Lit → Bool} (hM : Merged Dout Dd Ds left) (hl : ∀ k, left k = false) (hh : ∀ k, Maps.has Ds (.int .i64 k) = true → ∃ v, ∀ z, Ds.atKey (.int .i64 k) z = .held v) (k : Int) :
    valAt Dout k = (valAt Ds k).or (valAt Dd k) := by
  unfold valAt
  rw [hM.1, hM.2, hl]
  cases hs : Maps.has Ds (.int .i64 k)
  · simp
  · obtain ⟨v, hv⟩ := hh k hs
    simp [hv]

set_option maxHeartbeats 4000000 in
set_option maxRecDepth 100000 in
theorem mp_copy {w : World} {bd bs nd ns : Nat} {fd fs : Int → Option Value} (hd : MapI Try.prog 3 w bd fd nd) (hs : MapI Try.prog 3 w bs fs ns) (hne : bd ≠ bs) (hroom : nd + ns < maxLen) :
    Calls Try.prog 28 #[.map (some bd), .map (some bs)] w fun e w' => e = .returned (.tuple #[]) ∧ (∃ n', MapI Try.prog 3 w' bd (fun k => (fs k).or (fd k)) n') ∧ Keep (fun i => i = bd) w w' := by
  have hbd := hd.lt
  have hbs := hs.lt
  obtain ⟨Dd, hd, hd2, hd3⟩ := hd
  obtain ⟨Ds, hs, hs2, hs3⟩ := hs
  have K : Keyed Try.prog 3 := int_keyed un_int
  have HD3 := Lib.hid hd3; clear hd3
  have HS3 := Lib.hid hs3; clear hs3
  have HD2 := Lib.hid hd2; clear hd2
  have HS2 := Lib.hid hs2; clear hs2
  go_enter Try.func28, Try.ntmps28
  go_wp2_with (first
    | (at_range; refine wpList_range_own _ rfl _ 54 rfl 3 9 K Try.underlying54 Rv bs ns _ rfl hs ?_; intro w0 hrg0 hg0 hs0)
    | go_in)
  go_frame
  go_loopw [8] (fun _ wr => ∃ (left : Lit → Bool) (cnt : Nat) (Dout : DataW Value), wr.ranges Try.prog 3 Rv bs w.heap.size ns Ds left cnt ∧ cnt ≤ Maps.size Ds ∧
      wr.ownsMap Try.prog 3 Rv bd (nd + (Maps.size Ds - cnt)) Dout ∧ Merged Dout Dd Ds left ∧ w.grownBy wr (some bd))
    (fun _ wr => wr.rangeLeft bs w.heap.size)
  case atStart =>
    exact ⟨_, _, Dd, hrg0, Nat.le_refl _, (hd.kept hg0 (by simp)).mono (by omega), merged_start Dd Ds, hg0.but _⟩
  case round =>
    obtain ⟨left, cnt, Dout, hrg, hcs, hout, hM, hgw⟩ := hrel
    have hS2 := HS2.out
    have hbnd : nd + (Maps.size Ds - cnt) < maxLen := by omega
    clear hS2
    go_wp2_with (first
      | (at_next; refine wpList_next_ranges _ rfl _ rfl 3 K Rv id id (fun key _ _ => ⟨key, rfl⟩) (fun v _ _ => ⟨v, rfl⟩) bs w.heap.size ns _ _ _ rfl hrg ?_ ?_)
      | go_in)
    · intro hc0 hl0
      go_wp2
      go_end0
      refine ⟨rfl, ⟨_, MapI.of_own hout ?_⟩, Keep.of_grown hgw _ (fun k hk => .inl (by cases hk; rfl))⟩
      intro k
      rw [valAt_merged hM hl0 (fun k hk => held_of_has hs un_int hk), HD3.out, HS3.out]
    · intro x c kl yd yp w1 cnt1 hkey hlx hv hat hrg1 hlt hg1 hs1 hen
      have hout1 := hout.kept hg1 (fun e => by have := Option.some.inj e; omega)
      go_wp2_with (first
        | (at_mapUpdate; refine wpList_mapUpdate_own _ rfl _ _ _ 54 rfl 3 9 K Try.underlying54 Rv bd _ _ rfl hout1 (by omega) _ _ _ rfl rfl hkey yd yp hv ?_; intro w2 hout2 hg2; go_frame)
        | go_in)
      have hrg2 := hrg1.kept hg2 (fun e => hne (Option.some.inj e).symm) (fun e => by have := Option.some.inj e; omega)
      go_roundw
      case rel =>
        exact ⟨_, cnt1, _, hrg2, by omega, hout2.mono (by omega), merged_step hM hout.isMap (K.key hkey) hat, (hgw.andThen hg1 (fun j hj => .inl (by cases hj; exact Nat.le_refl _))).andThen hg2 (fun j hj => .inr hj)⟩
      case measure => rw [hrg2.left_eq, hrg.left_eq]; exact hlt
end Go.Proofs.Ytbgcglojgohjdaa
