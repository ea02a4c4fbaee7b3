/- DiskLasts: what was flushed lasts behind any crash (conditions: none). -/
import Derived.Test.YtbgcglojgohjdaaLsm
import Derived.Test.YtbgcglojgohjdaaLast
import Derived.BigQuiet
import Derived.Deep.QuietTactic
import Derived.Outline
namespace Go.Proofs.Ytbgcglojgohjdaa
attribute [local go_sem ↓] Go.wp_at_zero Go.wp_at_succ
open Go.RowKit Go.Maps

theorem below_drewN (w : World) (n : Nat) : Below w.heap.size w (w.drewN n) := ⟨rfl, rfl, rfl, Nat.le_refl _, fun _ _ => rfl⟩
theorem index_at (s : ByteArray) (k : Nat) (hk : k < s.size) (W : World) : (Instr.index 9 (.string s) (.int .i64 k)).run Try.prog W = .ok (.int .u8 ((byteAt s k).toNat : Int)) W := by
  rw [run_index_string _ _ _ _ _ Try.underlying9, dif_pos ⟨by omega, by omega⟩]
  have : s[((k : Int)).toNat]'(by omega) = byteAt s k := by
    unfold byteAt
    rw [List.getD_eq_getElem?_getD, List.getElem?_eq_getElem (by rw [size_list]; exact hk), Option.getD_some]
    rfl
  rw [this]
theorem info_call : (Try.prog.info? 27).map (fun i => (i.zero, i.size, i.bytes)) = some (some (.agg #[.int .i64 0, .int .i64 0, .int .i64 0, .int .u8 0, .int .u8 0, .slice none 0 0]), 6, 56) := by kernel_rfl
theorem info_strL : (Try.prog.info? 9).map (fun i => (i.zero, i.size, i.bytes)) = some (some (.string ⟨#[]⟩), 1, 16) := by kernel_rfl

set_option maxHeartbeats 16000000 in
set_option maxRecDepth 100000 in
theorem law_lasts {w : World} {A A1 A2 : Option Addr} {n c n1 c1 n2 c2 : Nat} {cs cs1 : List CallS} {fs : List Int} (h : RC w A n cs) (h1 : RC w A1 n1 cs1) (h2 : RI w A2 n2 fs) :
    Calls Try.prog 3 #[.slice A n c, .slice A1 n1 c1, .slice A2 n2 c2] w fun e w' => e = .returned (.bool true) ∧ Below w.heap.size w w' := by
  obtain ⟨i0, hi, hz0, hz1, hz2⟩ := info_parts info_call
  obtain ⟨j0, ji, jz0, jz1, jz2⟩ := info_parts info_strL
  have HR := Lib.hid h; clear h
  have HR1 := Lib.hid h1; clear h1
  have HRF := Lib.hid h2; clear h2
  cases hlg : longB cs with
  | true =>
    have HLG := Lib.hid hlg; clear hlg
    go_enter Try.func3, Try.ntmps3
    go_wp2_with fail
    refine (law_awake _).mono ?_
    rintro e w1 ⟨rfl, hb1⟩
    have HB1 := Lib.hid hb1; clear hb1
    go_wp2_with fail
    refine (law_long (HR.out.below HB1.out)).mono ?_
    rw [HLG.out]
    rintro e w2 ⟨rfl, rfl⟩
    go_wp2_with fail
    go_ret
    exact ⟨rfl, HB1.out⟩
  | false =>
    obtain ⟨hn120, _⟩ := longB_no hlg
    rw [HR.out.1] at hn120
    have HLG := Lib.hid hlg; clear hlg
    cases hlg1 : longB cs1 with
    | true =>
      have HLG1 := Lib.hid hlg1; clear hlg1
      go_enter Try.func3, Try.ntmps3
      go_wp2_with fail
      refine (law_awake _).mono ?_
      rintro e w1 ⟨rfl, hb1⟩
      have HB1 := Lib.hid hb1; clear hb1
      go_wp2_with fail
      refine (law_long (HR.out.below HB1.out)).mono ?_
      rw [HLG.out]
      rintro e w2 ⟨rfl, rfl⟩
      go_wp2_with fail
      refine (law_long (HR1.out.below HB1.out)).mono ?_
      rw [HLG1.out]
      rintro e w2 ⟨rfl, rfl⟩
      go_wp2_with fail
      go_ret
      exact ⟨rfl, HB1.out⟩
    | false =>
      obtain ⟨hn121, _⟩ := longB_no hlg1
      rw [HR1.out.1] at hn121
      have HLG1 := Lib.hid hlg1; clear hlg1
      by_cases hf200 : 200 < n2
      · go_enter Try.func3, Try.ntmps3
        go_wp2_with fail
        refine (law_awake _).mono ?_
        rintro e w1 ⟨rfl, hb1⟩
        have HB1 := Lib.hid hb1; clear hb1
        go_wp2_with fail
        refine (law_long (HR.out.below HB1.out)).mono ?_
        rw [HLG.out]
        rintro e w2 ⟨rfl, rfl⟩
        go_wp2_with fail
        refine (law_long (HR1.out.below HB1.out)).mono ?_
        rw [HLG1.out]
        rintro e w2 ⟨rfl, rfl⟩
        go_wp2_with fail
        go_ret
        exact ⟨rfl, HB1.out⟩
      · go_enter Try.func3, Try.ntmps3
        go_wp2_with fail
        refine (law_awake _).mono ?_
        rintro e w1 ⟨rfl, hb1⟩
        have HB1 := Lib.hid hb1; clear hb1
        go_wp2_with fail
        refine (law_long (HR.out.below HB1.out)).mono ?_
        rw [HLG.out]
        rintro e w2 ⟨rfl, rfl⟩
        go_wp2_with fail
        refine (law_long (HR1.out.below HB1.out)).mono ?_
        rw [HLG1.out]
        rintro e w2 ⟨rfl, rfl⟩
        go_wp2_with fail
        go_loopw [7, 8] (fun v7 v8 wr => ∃ (k : Nat) (l : List CallM) (A' : Option Addr) (q' : Nat), k ≤ n ∧ v8 = .int .i64 k ∧ v7 = .slice A' l.length q' ∧ wr.ownsRow w.heap.size 27 6 (.slice A' l.length q') l.length (crows l) ∧ l.length ≤ k ∧ (∀ x ∈ l, x.ok w) ∧ (∀ x ∈ l, x.c.kind ≠ 3) ∧ Below w.heap.size w wr) (fun _ v8 _ => n - (intOf v8).toNat)
        case atStart => exact ⟨0, [], none, 0, Nat.zero_le _, rfl, rfl, World.ownsRow_nil _ _ _ _, Nat.le_refl _, fun _ h => (by cases h), fun _ h => (by cases h), HB1.out⟩
        case round =>
          rename_i wr
          obtain ⟨k, l, A', q', hk, rfl, rfl, ho, hlk, hok, hk3, hb⟩ := hrel
          have HO := Lib.hid ho; clear ho
          have HOK := Lib.hid hok; clear hok
          have HK3 := Lib.hid hk3; clear hk3
          have hbs := hb.size
          have HB := Lib.hid hb; clear hb
          by_cases hlt : k < n
          · obtain ⟨ad, rfl, hcs0⟩ := HR.out.2.2 (by omega)
            have hcall0 := hcs0 k hlt
            have hcall := hcall0.below HB.out
            obtain ⟨Af, cf, _, hri⟩ := hcall0.c5
            obtain ⟨g0, g1, g2, g3, g4, ⟨Af', cf', g5, _⟩, r0, r1, r2⟩ := hcall
            obtain ⟨rfl, rfl⟩ : Af = Af' ∧ cf = cf' := by
              rename_i h5 _
              have := (cell_later HB.out h5).symm.trans g5
              injection this with this
              injection this with x _ y
              exact ⟨x, y⟩
            have HRI := Lib.hid hri; clear hri
            have HR012 : Hid (i64r (cs.getD k default).kind ∧ i64r (cs.getD k default).n ∧ i64r (cs.getD k default).cut) := Lib.hid ⟨r0, r1, r2⟩
            clear hcs0 r0 r1 r2 hcall0
            generalize cs.getD k default = cl at *
            by_cases h3 : cl.kind = 3
            · rw [h3] at g0
              go_wp2_with fail
              go_roundw
              case rel => exact ⟨k + 1, l, A', q', by omega, by go_num, rfl, HO.out, by omega, HOK.out, HK3.out, HB.out⟩
              case measure => simp [intOf]; omega
            · have h3' : (cl.kind == 3) = false := by simpa using h3
              have h3'' : (cl.kind != 3) = true := by simpa using h3
              have H3 := Lib.hid h3; clear h3
              go_wp2_with (first
                | (at_builtin
                   refine wpList_append_own _ rfl (.tmp 48) (.tmp 53) 22 rfl w.heap.size 27 i0 (.agg #[.int .i64 0, .int .i64 0, .int .i64 0, .int .u8 0, .int .u8 0, .slice none 0 0]) 6 56 Try.underlying22 hi hz0 hz1 hz2 rfl (by decide) _ l.length _ rfl
                     (HO.out.alloc _) ⟨wr.heap.size, 0, none⟩ 1 1 (crow ⟨cl, Af, cf⟩) rfl rfl ?c1 ?c2 ?c3 ?c4 ?c5 ?_
                   case c1 => exact World.news_of_block (heap_alloc_new wr _)
                   case c2 => exact crow_one _
                   case c3 => unfold maxLen; omega
                   case c4 => omega
                   case c5 => simp; omega
                   intro v2 w2 hown2 hg2 _
                   obtain ⟨A2', q2', rfl⟩ := own_slice hown2
                   have hb2 := (HB.out.alloc hbs (.cells (crow ⟨cl, Af, cf⟩).toArray 27)).grown hg2 (by simp; omega) (fun k hk => (HO.out.lt k hk).1)
                   have HO2 := Lib.hid hown2; clear hown2
                   have HB2 := Lib.hid hb2; clear hb2 hg2))
              go_roundw
              case rel =>
                refine ⟨k + 1, l ++ [⟨cl, Af, cf⟩], A2', q2', by omega, by go_num, by simp, ?_, by simp; omega, ?_, ?_, HB2.out⟩
                · rw [crows_snoc, List.length_append, List.length_singleton]; exact HO2.out
                · intro x hx
                  rcases List.mem_append.1 hx with hx | hx
                  · exact HOK.out x hx
                  · obtain rfl := List.mem_singleton.1 hx
                    exact ⟨HRI.out, HR012.out⟩
                · intro x hx
                  rcases List.mem_append.1 hx with hx | hx
                  · exact HK3.out x hx
                  · obtain rfl := List.mem_singleton.1 hx
                    exact H3.out
              case measure => simp [intOf]; omega
          · have hnl : ¬ k < n := hlt
            go_wp2_with (first
              | (at_builtin
                 refine wpList_append_own _ rfl (.tmp 55) (.tmp 57) 22 rfl w.heap.size 27 i0 (.agg #[.int .i64 0, .int .i64 0, .int .i64 0, .int .u8 0, .int .u8 0, .slice none 0 0]) 6 56 Try.underlying22 hi hz0 hz1 hz2 rfl (by decide) _ l.length _ rfl
                   (HO.out.alloc _) ⟨wr.heap.size, 0, none⟩ 1 1 (crow ⟨flushCall, none, 0⟩) rfl rfl ?c1 ?c2 ?c3 ?c4 ?c5 ?_
                 case c1 => exact World.news_of_block (heap_alloc_new wr _)
                 case c2 => exact crow_one _
                 case c3 => unfold maxLen; omega
                 case c4 => omega
                 case c5 => simp; omega
                 intro v2 w2 hown2 hg2 _
                 obtain ⟨A2', q2', rfl⟩ := own_slice hown2
                 have hb2 := (HB.out.alloc hbs (.cells (crow ⟨flushCall, none, 0⟩).toArray 27)).grown hg2 (by simp; omega) (fun k hk => (HO.out.lt k hk).1)
                 have HO2 := Lib.hid hown2; clear hown2
                 have HB2 := Lib.hid hb2; clear hb2 hg2))
            clear hlt hnl
            have hrc := rc_of_own (l := l ++ [⟨flushCall, none, 0⟩]) (by rw [crows_snoc, List.length_append, List.length_singleton]; exact HO2.out) (fun x hx => by
              rcases List.mem_append.1 hx with hx | hx
              · exact ⟨(HOK.out x hx).1.below HB2.out, (HOK.out x hx).2⟩
              · obtain rfl := List.mem_singleton.1 hx
                exact ⟨⟨rfl, by simp [flushCall], fun h => by simp [flushCall] at h⟩, by simp [i64r, flushCall], by simp [i64r, flushCall], by simp [i64r, flushCall]⟩) (by simp; omega)
            rw [List.length_append, List.length_singleton, List.map_append] at hrc
            obtain ⟨hcalm, hopn⟩ := made_flushed (l.map (·.c)) (fun c hc => by
              obtain ⟨x, hx, rfl⟩ := List.mem_map.1 hc
              exact HK3.out x hx)
            have HRC := Lib.hid hrc; clear hrc
            clear HO HO2 HOK HK3
            refine (law_made HRC.out (by omega)).mono ?_
            rw [show List.map (fun x => x.c) [({ c := flushCall, A := none, q := 0 } : CallM)] = [flushCall] from rfl]
            rintro e w3 ⟨xd, rfl, S0, hd3, hb3, hs3⟩
            clear HRC
            generalize madeD (List.map (fun x => x.c) l ++ [flushCall]) = D0 at *
            have HCM := Lib.hid hcalm; clear hcalm
            have HOP := Lib.hid hopn; clear hopn
            have HD := Lib.hid hd3; clear hd3
            have HS0 : Hid (∀ i, S0 i → w2.heap.size ≤ i) := Lib.hid hs3; clear hs3
            have HB3 := Lib.hid (HB2.out.trans (hb3.mono HB2.out.size)); clear hb3
            go_wp2_with fail
            have hmay := MayW.new w3 HB3.out.size
            have hbm : Below w.heap.size w (w3.alloc (.cells #[.slice none 0 0, .slice none 0 0, .slice none 0 0, .slice none 0 0, .slice none 0 0, .slice none 0 0, .slice none 0 0, .slice none 0 0] 31)) := HB3.out.alloc HB3.out.size _
            have hdm := HD.out.alloc (.cells #[.slice none 0 0, .slice none 0 0, .slice none 0 0, .slice none 0 0, .slice none 0 0, .slice none 0 0, .slice none 0 0, .slice none 0 0] 31)
            have hap : ∀ i, S0 i → ¬ i = w3.heap.size := fun i hi e => by have := HD.out.lt i hi; omega
            have hge0 : ∀ i, S0 i → w.heap.size ≤ i := fun i hi => Nat.le_trans HB2.out.size (HS0.out i hi)
            have HMAY := Lib.hid hmay; clear hmay
            have HBM := Lib.hid hbm; clear hbm
            have HDM := Lib.hid hdm; clear hdm
            have HAP := Lib.hid hap; clear hap
            have HGE0 := Lib.hid hge0; clear hge0
            clear HD HS0 HB3 HB2
            generalize w3.alloc (.cells #[.slice none 0 0, .slice none 0 0, .slice none 0 0, .slice none 0 0, .slice none 0 0, .slice none 0 0, .slice none 0 0, .slice none 0 0] 31) = w4 at *
            generalize w3.heap.size = mb at *
            have hrd : ∀ m : Nat, m < 8 → D0.read (m : Int) = ((D0.fl (m : Int)).getD zb, 0) := fun m hm => by
              have h8 := HCM.out.size
              unfold DS.read
              rw [HCM.out.down, if_neg (by simp), if_neg (by omega), HOP.out]
              rfl
            have HRD := Lib.hid hrd; clear hrd
            go_loopw [11] (fun v11 wr => ∃ (m : Nat) (M : Nat → Prop), m ≤ 8 ∧ v11 = .int .i64 m ∧ Dsk S0 wr xd D0 ∧ MayW w.heap.size M wr mb (fun i => if i < m then [(D0.fl (i : Int)).getD zb] else []) ∧ (∀ i, S0 i → ¬ M i) ∧ Below w.heap.size w wr) (fun v11 _ => 8 - (intOf v11).toNat)
            case atStart => exact ⟨0, _, Nat.zero_le _, rfl, HDM.out, HMAY.out.congr (fun i _ => by simp), HAP.out, HBM.out⟩
            case round =>
              clear HMAY HBM HDM HAP
              rename_i wr
              obtain ⟨m, M, hm8, rfl, hd, hmay, hap, hb⟩ := hrel
              have HD := Lib.hid hd; clear hd
              have HMAY := Lib.hid hmay; clear hmay
              have HAP := Lib.hid hap; clear hap
              have HB := Lib.hid hb; clear hb
              by_cases hlt : m < 8
              · go_wp2_with fail
                refine (ds_read HD.out m).mono ?_
                rw [HRD.out m hlt]
                rintro e w5 ⟨rfl, hb5⟩
                have HD5 := Lib.hid (HD.out.below hb5)
                have HB5 := Lib.hid (HB.out.trans (hb5.mono HB.out.size))
                obtain ⟨Ar, qr, hrow⟩ := (HMAY.out.below hb5).row m hlt
                have hlen : (if m < m then [(D0.fl (m : Int)).getD zb] else ([] : List ByteArray)).length = 0 := by simp
                have c0 := hrow.cell
                have f0 := hrow.frozen
                have ho := hrow.own
                have hpush := hrow.push
                simp only [Nat.lt_irrefl, if_false, List.length_nil, List.map_nil, List.nil_append, Nat.zero_add] at c0 ho hpush
                clear hrow hlen hb5
                have HO := Lib.hid ho; clear ho
                have HPU := Lib.hid hpush; clear hpush
                have hsz5 := HB5.out.size
                obtain ⟨t0, ht0⟩ : ∃ t0, (D0.fl (m : Int)).getD zb = t0 := ⟨_, rfl⟩
                rw [ht0]
                have HT0 := Lib.hid ht0; clear ht0
                go_wp2_with (first
                  | (at_builtin
                     refine wpList_append_own_at _ rfl (.tmp 76) (.tmp 78) 30 rfl w.heap.size 9 j0 (.string ⟨#[]⟩) 1 16 Try.underlying30 ji jz0 jz1 jz2 rfl (by decide) (.slice Ar 0 qr) 0 [] rfl
                       (HO.out.alloc _) ⟨w5.heap.size, 0, none⟩ 1 1 [.string t0] rfl rfl ?c1 ?c2 ?c3 ?c4 ?c5 ?_
                     case c1 => exact World.news_of_block (heap_alloc_new w5 _)
                     case c2 => simp [Value.oneCell']
                     case c3 => unfold maxLen; omega
                     case c4 => omega
                     case c5 => simp; omega
                     intro v6 w6 hown6 hg6 _ hat6
                     obtain ⟨A6, q6, rfl⟩ := own_slice hown6
                     have HP6 : Hid (∃ M', MayW w.heap.size M' (w6.setCell ⟨mb, m, none⟩ (.slice A6 (0 + 1) q6)) mb (updL (fun i => if i < m then [(D0.fl (i : Int)).getD zb] else []) m t0) ∧ Grow M M' w5 (w6.setCell ⟨mb, m, none⟩ (.slice A6 (0 + 1) q6)) ∧ w6.cell? ⟨mb, m, none⟩ = some (.slice Ar 0 qr) ∧ w6.frozen? ⟨mb, m, none⟩ = false) := Lib.hid (by
                       exact ⟨_, HPU.out (w5.alloc (.cells #[.string t0] 9)) w6 t0 A6 q6 ((Below.refl _ _).alloc (Nat.le_refl _) _) hg6 (by simpa using hown6) (hat6.imp id (fun h => ⟨_, h, Nat.le_refl _⟩))⟩)
                     obtain ⟨M', hp1, hp2, hp3, hp4⟩ := HP6.out
                     have HP1 := Lib.hid hp1; clear hp1
                     have HP2 := Lib.hid hp2; clear hp2 HP6 hown6 hg6 hat6))
                have hge := HMAY.out.ge
                have hp2 := HP2.out
                go_roundw
                case rel =>
                  refine ⟨m + 1, M', by omega, by go_num, HD5.out.keep hp2.keep HAP.out, HP1.out.congr (fun i hi => ?_), hp2.apart' HD5.out.lt HAP.out, HB5.out.trans (hp2.keep.to_below HB5.out.size hge)⟩
                  unfold updL
                  by_cases e : i = m
                  · subst e; simp [HT0.out]
                  · have : (i < m + 1) ↔ (i < m) := by omega
                    simp [e, this]
                case measure => simp [intOf]; omega
              · have hm0 : MayW w.heap.size M wr mb (fun i => mayL D0.fl D0.op (i : Int)) := HMAY.out.congr (fun i hi => by rw [if_pos (by omega), HOP.out]; rfl)
                have HMAY0 := Lib.hid hm0; clear hm0 HMAY
                go_wp2_with fail
                go_loopw [14] (fun v14 wr => ∃ (k : Nat) (D : DS) (S M : Nat → Prop), k ≤ n1 ∧ v14 = .int .i64 k ∧ Dsk S wr xd D ∧ Calm D ∧ D.fl = D0.fl ∧ D.op.length ≤ k ∧ MayW w.heap.size M wr mb (fun i => mayL D0.fl D.op (i : Int)) ∧ (∀ i, S i → ¬ M i) ∧ (∀ i, S i → w.heap.size ≤ i) ∧ Below w.heap.size w wr) (fun v14 _ => n1 - (intOf v14).toNat)
                case atStart => exact ⟨0, D0, S0, M, Nat.zero_le _, rfl, HD.out, HCM.out, rfl, by rw [HOP.out]; simp, HMAY0.out, HAP.out, HGE0.out, HB.out⟩
                case round =>
                  clear HMAY0 HD HAP HB hlt
                  rename_i wr
                  obtain ⟨k, D, S, M, hk1, rfl, hd, hcm, hfl, hop, hmay, hap, hge, hb⟩ := hrel
                  have HD := Lib.hid hd; clear hd
                  have HCD := Lib.hid hcm; clear hcm
                  have HFL := Lib.hid hfl; clear hfl
                  have HMAY := Lib.hid hmay; clear hmay
                  have HAP := Lib.hid hap; clear hap
                  have HGE := Lib.hid hge; clear hge
                  have HB := Lib.hid hb; clear hb
                  by_cases hlt1 : k < n1
                  · obtain ⟨ad, rfl, hcs0⟩ := (HR1.out.below HB.out).2.2 (by omega)
                    obtain ⟨g0, g1, g2, g3, g4, ⟨Af, cf, g5, _⟩, r0, r1, r2⟩ := hcs0 k hlt1
                    clear hcs0
                    generalize cs1.getD k default = cl at *
                    have HR1' := Lib.hid r1; clear r0 r1 r2
                    by_cases hk0 : cl.kind = 0
                    · rw [hk0] at g0
                      clear hk0
                      obtain ⟨q1, q2⟩ := calm_write HCD.out cl.n (dat cl.a cl.b) (dat_size _ _)
                      by_cases hin : 0 ≤ cl.n ∧ cl.n < 8
                      · obtain ⟨y, hy⟩ : ∃ y : Nat, cl.n = (y : Int) := ⟨cl.n.toNat, by omega⟩
                        have hwr := q1 hin
                        have hy8 : y < 8 := by omega
                        rw [hy] at g1 hwr
                        clear q1 q2 hin hy
                        have HWR := Lib.hid hwr; clear hwr
                        go_wp2_with fail
                        have hbx := heap_alloc_new wr (.cells #[.int .i64 0, .int .i64 (y : Int), .int .i64 cl.cut, .int .u8 cl.a, .int .u8 cl.b, .slice Af cl.fates.length cf] 27)
                        have hwb : Below wr.heap.size wr (wr.alloc (.cells #[.int .i64 0, .int .i64 (y : Int), .int .i64 cl.cut, .int .u8 cl.a, .int .u8 cl.b, .slice Af cl.fates.length cf] 27)) := (Below.refl _ _).alloc (Nat.le_refl _) _
                        have HDX := Lib.hid (HD.out.below hwb)
                        have HMX := Lib.hid (HMAY.out.below hwb)
                        have HBX := Lib.hid (HB.out.trans (hwb.mono HB.out.size))
                        have hnx : ∀ i, S i ∨ M i → i ≠ wr.heap.size := fun i hi e => by
                          rcases hi with hi | hi
                          · have := HD.out.lt i hi; omega
                          · have := HMAY.out.lt i hi; omega
                        have HNX := Lib.hid hnx; clear hnx
                        clear hwb g0 g1 g2 g3 g4 g5 HD HMAY HB
                        generalize wr.alloc (.cells #[.int .i64 0, .int .i64 (y : Int), .int .i64 cl.cut, .int .u8 cl.a, .int .u8 cl.b, .slice Af cl.fates.length cf] 27) = w0 at *
                        generalize wr.heap.size = vb at *
                        have d0 : w0.cell? ⟨vb, 0, none⟩ = some (.int .i64 0) := cell_of_row _ _ _ _ _ (0, 0) hbx
                        have d1 : w0.cell? ⟨vb, 1, none⟩ = some (.int .i64 (y : Int)) := cell_of_row _ _ _ _ _ (0, 0) hbx
                        have d3 : w0.cell? ⟨vb, 3, none⟩ = some (.int .u8 cl.a) := cell_of_row _ _ _ _ _ (0, 0) hbx
                        have d4 : w0.cell? ⟨vb, 4, none⟩ = some (.int .u8 cl.b) := cell_of_row _ _ _ _ _ (0, 0) hbx
                        clear hbx
                        obtain ⟨D2, e2, hq⟩ : ∃ D2 e2, D.write (y : Int) (dat cl.a cl.b) = (D2, e2) := ⟨_, _, rfl⟩
                        have HQ := Lib.hid hq; clear hq
                        go_region_held3 (fun w' => w'.cell? ⟨vb, 0, none⟩ = some (.int .i64 0) ∧ w'.cell? ⟨vb, 1, none⟩ = some (.int .i64 (y : Int)) ∧ w'.cell? ⟨vb, 3, none⟩ = some (.int .u8 cl.a) ∧ w'.cell? ⟨vb, 4, none⟩ = some (.int .u8 cl.b)) (go_keep)
                          (first
                            | (go_at_call 13; refine (law_data cl.a cl.b _).mono ?_; rintro e w5 ⟨rfl, hb5⟩; have e0 : w5.cell? ⟨vb, 0, none⟩ = some (.int .i64 0) := cell_later hb5 d0; have e1 : w5.cell? ⟨vb, 1, none⟩ = some (.int .i64 (y : Int)) := cell_later hb5 d1; have e3 : w5.cell? ⟨vb, 3, none⟩ = some (.int .u8 cl.a) := cell_later hb5 d3; have e4 : w5.cell? ⟨vb, 4, none⟩ = some (.int .u8 cl.b) := cell_later hb5 d4; have HD5 : Hid (Dsk S w5 xd D) := Lib.hid (by first | exact HDX.out.below hb5 | exact HDX.out.drew.below hb5); have HM5 : Hid (MayW w.heap.size M w5 mb (fun i => mayL D0.fl D.op (i : Int))) := Lib.hid (by first | exact HMX.out.below hb5 | exact (HMX.out.below (Below.drew (Below.refl _ _))).below hb5); have HB5 : Hid (Below w.heap.size w w5) := Lib.hid (by first | exact HBX.out.trans (hb5.mono HBX.out.size) | exact HBX.out.drew.trans (hb5.mono HBX.out.size)); clear hb5)
                            | (go_at_call 12; refine (ds_write (by first | exact HD5.out | exact HD5.out.drew) (y : Int) (dat cl.a cl.b) (by rw [dat_size]; unfold maxLen; omega) (by omega) ⟨by omega, by omega⟩).mono ?_; rw [HQ.out]; rintro e w6 ⟨rfl, S6, hd6, hg6⟩; have k0 : w6.cell? ⟨vb, 0, none⟩ = some (.int .i64 0) := hg6.keep.cell e0 (fun h => HNX.out _ (.inl h) rfl); have k1 : w6.cell? ⟨vb, 1, none⟩ = some (.int .i64 (y : Int)) := hg6.keep.cell e1 (fun h => HNX.out _ (.inl h) rfl); have k3 : w6.cell? ⟨vb, 3, none⟩ = some (.int .u8 cl.a) := hg6.keep.cell e3 (fun h => HNX.out _ (.inl h) rfl); have k4 : w6.cell? ⟨vb, 4, none⟩ = some (.int .u8 cl.b) := hg6.keep.cell e4 (fun h => HNX.out _ (.inl h) rfl); have HD6 := Lib.hid hd6; have HM6 : Hid (MayW w.heap.size M w6 mb (fun i => mayL D0.fl D.op (i : Int))) := Lib.hid (by first | exact HM5.out.keep hg6.keep (fun i hi hs => HAP.out i hs hi) | exact (HM5.out.below (Below.drew (Below.refl _ _))).keep hg6.keep (fun i hi hs => HAP.out i hs hi)); have HAP6 : Hid (∀ i, S6 i → ¬ M i) := Lib.hid (fun i hi hm => by rcases hg6.new i hi with h | h; exact HAP.out i h hm; have := HM5.out.lt i hm; have h' : w5.heap.size ≤ i := h; omega); have HS6 : Hid (∀ i, S6 i → w.heap.size ≤ i) := Lib.hid (fun i hi => by rcases hg6.new i hi with h | h; exact HGE.out i h; exact Nat.le_trans HB5.out.size h); have HB6 : Hid (Below w.heap.size w w6) := Lib.hid ((by first | exact HB5.out | exact HB5.out.drew : Below w.heap.size w _).trans (hg6.keep.to_below HB5.out.size HGE.out)); have HZ6 : Hid (vb < w6.heap.size) := Lib.hid (World.block_lt_of_cell? w6 _ k0); clear hd6 hg6))
                        clear d0 d1 d3 d4 e0 e1 e3 e4 HD5 HM5 HB5 HDX HMX HBX
                        obtain ⟨rfl, rfl⟩ : e2 = 0 ∧ D2 = { D with op := D.op ++ [((y : Int), dat cl.a cl.b)], left := wrap64 (D.left - 1) } := by
                          have := HQ.out.symm.trans HWR.out
                          exact ⟨congrArg (·.2) this, congrArg (·.1) this⟩
                        go_wp2_with fail
                        obtain ⟨Ar, qr, hrow⟩ := HM6.out.row y hy8
                        have rc := hrow.cell
                        have rf := hrow.frozen
                        have ho := hrow.own
                        have hpush := hrow.push
                        have hmge := HM6.out.ge
                        have hinm := hrow.inM
                        have HINM : Hid (∀ k, (Value.slice Ar (mayL D0.fl D.op (y : Int)).length qr).ownBlock = some k → k ≠ vb) := Lib.hid (fun k hk => HNX.out k (.inr (hinm k hk)))
                        clear hinm
                        have hmb6 := HM6.out.hmb
                        clear hrow
                        have HO := Lib.hid ho; clear ho
                        have HPU := Lib.hid hpush; clear hpush
                        have HMG := Lib.hid hmge; clear hmge
                        have hln : (mayL D0.fl D.op (y : Int)).length ≤ 200 := by
                          have := List.length_filter_le (fun x : Int × ByteArray => decide (x.1 = (y : Int))) D.op
                          simp only [mayL, List.length_cons, List.length_map]
                          omega
                        have hyi : (y : Int) < 8 := by omega
                        have hyj : (0 : Int) ≤ (y : Int) := by omega
                        clear hy8 HM6 HQ HWR
                        have hS0 : (fun w' => w'.cell? ⟨vb, 1, none⟩ = some (.int .i64 y) ∧ w'.cell? ⟨vb, 3, none⟩ = some (.int .u8 cl.a) ∧ w'.cell? ⟨vb, 4, none⟩ = some (.int .u8 cl.b) ∧ w'.cell? ⟨mb, y, none⟩ = some (.slice Ar (mayL D0.fl D.op (y : Int)).length qr)) w6.drew := ⟨k1, k3, k4, rc⟩
                        refine wp_region_T (S := (fun w' => w'.cell? ⟨vb, 1, none⟩ = some (.int .i64 y) ∧ w'.cell? ⟨vb, 3, none⟩ = some (.int .u8 cl.a) ∧ w'.cell? ⟨vb, 4, none⟩ = some (.int .u8 cl.b) ∧ w'.cell? ⟨mb, y, none⟩ = some (.slice Ar (mayL D0.fl D.op (y : Int)).length qr))) (t := 14) (by kernel_rfl) ?_
                        refine' wpAnyT_take (by kernel_rfl) 0 (v := _) (by decide) rfl (by kernel_rfl) (by kernel_rfl) (by kernel_rfl) (fun _ _ _ h => h) (Or.inl ⟨by rfl, ?hy0⟩) (by assumption) ?rest0
                        case hy0 => (intro w hSw; (try dsimp only at hSw); go_simp; (try with_reducible rfl))
                        try simp only [Act.put, List.setIfInBounds_toArray, List.set_cons_zero, List.set_cons_succ]
                        refine' wpAnyT_take (by kernel_rfl) 1 (v := _) (by decide) rfl (by kernel_rfl) (by kernel_rfl) (by kernel_rfl) (fun _ _ _ h => h) (Or.inl ⟨by rfl, ?hy1⟩) (by assumption) ?rest1
                        case hy1 => (intro w hSw; (try dsimp only at hSw); go_simp; (try with_reducible rfl))
                        try simp only [Act.put, List.setIfInBounds_toArray, List.set_cons_zero, List.set_cons_succ]
                        refine' wpAnyT_take (by kernel_rfl) 2 (v := _) (by decide) rfl (by kernel_rfl) (by kernel_rfl) (by kernel_rfl) (fun _ _ _ h => h) (Or.inl ⟨by rfl, ?hy2⟩) (by assumption) ?rest2
                        case hy2 => (intro w hSw; (try dsimp only at hSw); go_simp; (try with_reducible rfl))
                        try simp only [Act.put, List.setIfInBounds_toArray, List.set_cons_zero, List.set_cons_succ]
                        refine' wpAnyT_take (by kernel_rfl) 3 (v := _) (by decide) rfl (by kernel_rfl) (by kernel_rfl) (by kernel_rfl) (fun _ _ _ h => h) (Or.inl ⟨by rfl, ?hy3⟩) (by assumption) ?rest3
                        case hy3 => (intro w hSw; (try dsimp only at hSw); go_simp; (try with_reducible rfl))
                        try simp only [Act.put, List.setIfInBounds_toArray, List.set_cons_zero, List.set_cons_succ]
                        refine' wpAnyT_take (by kernel_rfl) 4 (v := _) (by decide) rfl (by kernel_rfl) (by kernel_rfl) (by kernel_rfl) (fun _ _ _ h => h) (Or.inl ⟨by rfl, ?hy4⟩) (by assumption) ?rest4
                        case hy4 => (intro w hSw; (try dsimp only at hSw); go_simp; (try with_reducible rfl))
                        try simp only [Act.put, List.setIfInBounds_toArray, List.set_cons_zero, List.set_cons_succ]
                        refine' wpAnyT_take (by kernel_rfl) 5 (v := _) (by decide) rfl (by kernel_rfl) (by kernel_rfl) (by kernel_rfl) (fun _ _ _ h => h) (Or.inl ⟨by rfl, ?hy5⟩) (by assumption) ?rest5
                        case hy5 => (intro w hSw; (try dsimp only at hSw); go_simp; (try with_reducible rfl))
                        try simp only [Act.put, List.setIfInBounds_toArray, List.set_cons_zero, List.set_cons_succ]
                        refine' wpAnyT_take (by kernel_rfl) 6 (v := _) (by decide) rfl (by kernel_rfl) (by kernel_rfl) (by kernel_rfl) (fun _ _ _ h => h) (Or.inl ⟨by rfl, ?hy6⟩) (by assumption) ?rest6
                        case hy6 => (intro w hSw; (try dsimp only at hSw); go_simp; (try with_reducible rfl))
                        try simp only [Act.put, List.setIfInBounds_toArray, List.set_cons_zero, List.set_cons_succ]
                        refine' wpAnyT_take (by kernel_rfl) 7 (v := _) (by decide) rfl (by kernel_rfl) (by kernel_rfl) (by kernel_rfl) (fun _ _ _ h => h) (Or.inl ⟨by rfl, ?hy7⟩) (by assumption) ?rest7
                        case hy7 => (intro w hSw; (try dsimp only at hSw); go_simp; (try with_reducible rfl))
                        try simp only [Act.put, List.setIfInBounds_toArray, List.set_cons_zero, List.set_cons_succ]
                        refine' wpAnyT_take (by kernel_rfl) 8 (v := _) (by decide) rfl (by kernel_rfl) (by kernel_rfl) (by kernel_rfl) (fun _ _ _ h => h) (Or.inl ⟨by rfl, ?hy8⟩) (by assumption) ?rest8
                        case hy8 => (intro w hSw; (try dsimp only at hSw); go_simp; (try with_reducible rfl))
                        try simp only [Act.put, List.setIfInBounds_toArray, List.set_cons_zero, List.set_cons_succ]
                        refine' wpAnyT_take (by kernel_rfl) 9 (v := _) (by decide) rfl (by kernel_rfl) (by kernel_rfl) (by kernel_rfl) (fun _ _ _ h => h) (Or.inl ⟨by rfl, ?hy9⟩) (by assumption) ?rest9
                        case hy9 => (intro w hSw; (try dsimp only at hSw); go_simp; (try with_reducible rfl))
                        try simp only [Act.put, List.setIfInBounds_toArray, List.set_cons_zero, List.set_cons_succ]
                        refine wpAnyT_one 10 (by kernel_rfl) rfl (fun K hK => ?_)
                        go_simp
                        go_at_call 13
                        refine (law_data cl.a cl.b _).mono ?_
                        rintro e w7 ⟨rfl, hb7⟩
                        have m1 : w7.cell? ⟨vb, 1, none⟩ = some (.int .i64 y) := cell_later hb7 k1
                        have m3 : w7.cell? ⟨vb, 3, none⟩ = some (.int .u8 cl.a) := cell_later hb7 k3
                        have m4 : w7.cell? ⟨vb, 4, none⟩ = some (.int .u8 cl.b) := cell_later hb7 k4
                        have rc7 : w7.cell? ⟨mb, y, none⟩ = some (.slice Ar (mayL D0.fl D.op (y : Int)).length qr) := cell_later hb7 rc
                        have HB67 : Hid (Below w6.heap.size w6 w7) := Lib.hid ((Below.drew (Below.refl _ _)).trans hb7)
                        have HB7 : Hid (Below w.heap.size w w7) := Lib.hid (HB6.out.drew.trans (hb7.mono HB6.out.size))
                        have HO7 : Hid (w7.ownsRow w.heap.size 9 1 (.slice Ar (mayL D0.fl D.op (y : Int)).length qr) (mayL D0.fl D.op (y : Int)).length ((mayL D0.fl D.op (y : Int)).map Value.string)) := Lib.hid (own_keep HO.out (Keep.of_below HB67.out (fun _ => False)) (fun _ _ h => h))
                        have hba : Below w7.heap.size w7 (w7.alloc (.cells #[.string (dat cl.a cl.b)] 9)) := (Below.refl _ _).alloc (Nat.le_refl _) _
                        have n1a := cell_later hba m1
                        have n3a := cell_later hba m3
                        have n4a := cell_later hba m4
                        have rca := cell_later hba rc7
                        have HZB := HB7.out.size
                        clear hb7 hba
                        go_wp2_with fail
                        refine hK.out _ _ (fun _ => ⟨m1, m3, m4, rc7⟩) ?_
                        clear hK K
                        try simp only [Act.put, List.setIfInBounds_toArray, List.set_cons_zero, List.set_cons_succ]
                        refine wpAnyT_one 11 (by kernel_rfl) rfl (fun K hK => ?_)
                        go_simp
                        refine hK.out _ _ (fun _ => ⟨n1a, n3a, n4a, rca⟩) ?_
                        clear hK K
                        try simp only [Act.put, List.setIfInBounds_toArray, List.set_cons_zero, List.set_cons_succ]
                        refine wpAnyT_one 12 (by kernel_rfl) rfl (fun K hK => ?_)
                        refine step_append_any _ (by rfl) (.tmp 111) (.tmp 117) _ (by rfl) w.heap.size 9 j0 (.string ⟨#[]⟩) 1 16 Try.underlying30 ji jz0 jz1 jz2 rfl (by decide) (.slice Ar (mayL D0.fl D.op (y : Int)).length qr) (mayL D0.fl D.op (y : Int)).length _ (by rfl) (HO7.out.alloc _) (w7.heap.size + 1) (some ⟨w7.heap.size, 0, none⟩) 1 1 [.string (dat cl.a cl.b)] (by rfl) (reads_news w7 _ _) (by simp [Value.oneCell']) (by unfold maxLen; omega) (by omega) (by simp; omega) ?_
                        intro v8 w8 hown8 hg8 hat8
                        obtain ⟨A8, q8, rfl⟩ := own_slice hown8
                        have HP8 := Lib.hid (HPU.out _ w8 (dat cl.a cl.b) A8 q8 (HB67.out.alloc HB67.out.size _) hg8 hown8 (hat8.imp id (fun h => ⟨_, h, Nat.le_refl _⟩)))
                        have rc8 := HP8.out.2.2.1
                        have rf8 := HP8.out.2.2.2
                        have hkw : Keep (fun k => (Value.slice Ar (mayL D0.fl D.op (y : Int)).length qr).ownBlock = some k) (w7.alloc (.cells #[.string (dat cl.a cl.b)] 9)) w8 := Keep.of_grown hg8 _ (fun k hk => .inl hk)
                        have s1 := hkw.cell n1a (fun h => HINM.out _ h rfl)
                        have s3 := hkw.cell n3a (fun h => HINM.out _ h rfl)
                        have s4 := hkw.cell n4a (fun h => HINM.out _ h rfl)
                        clear hown8 hg8 hat8 hkw
                        refine hK.out _ _ (fun _ => ⟨s1, s3, s4, rc8⟩) ?_
                        clear hK K
                        try simp only [Act.put, List.setIfInBounds_toArray, List.set_cons_zero, List.set_cons_succ]
                        refine wpAnyT_one 13 (by kernel_rfl) rfl (fun K hK => ?_)
                        go_simp
                        refine hK.out _ _ (fun _ => ⟨s1, s3, s4, rc8⟩) ?_
                        clear hK K
                        try simp only [Act.put, List.setIfInBounds_toArray, List.set_cons_zero, List.set_cons_succ]
                        refine wpAnyT_one 14 (by kernel_rfl) rfl (fun K hK => ?_)
                        go_simp
                        refine hK.out _ _ (fun h => absurd rfl h) ?_
                        clear hK K
                        refine wpAnyT_done (by kernel_rfl) ?_
                        try simp only [Act.put, List.setIfInBounds_toArray, List.set_cons_zero, List.set_cons_succ]
                        have hp := HP8.out
                        clear HP8 rc8 rf8 s1 s3 s4 rc k0 k1 k3 k4 HO7 m1 m3 m4 rc7 n1a n3a n4a rca hS0
                        have HP := Lib.hid hp; clear hp
                        have hp2 := HP.out.2.1
                        go_wp2_with fail
                        go_roundw
                        case rel =>
                          refine ⟨k + 1, _, S6, _, by omega, by go_num, HD6.out.keep hp2.keep HAP6.out, ⟨HCD.out.lim, HCD.out.down, HCD.out.size⟩, HFL.out, by simp; omega, HP.out.1.congr (fun i hi => ?_), hp2.apart' HD6.out.lt HAP6.out, HS6.out, HB6.out.trans (hp2.keep.to_below HB6.out.size HMG.out)⟩
                          unfold updL
                          rw [mayL_snoc]
                          by_cases e : i = y
                          · subst e; simp
                          · have e' : ¬ (y : Int) = (i : Int) := fun h => e (by omega)
                            simp [e, e']
                        case measure => simp [intOf]; omega
                      · have hwr := q2 hin
                        clear q1 q2 hin
                        have HWR := Lib.hid hwr; clear hwr
                        go_wp2_with fail
                        have hbx := heap_alloc_new wr (.cells #[.int .i64 0, .int .i64 cl.n, .int .i64 cl.cut, .int .u8 cl.a, .int .u8 cl.b, .slice Af cl.fates.length cf] 27)
                        have hwb : Below wr.heap.size wr (wr.alloc (.cells #[.int .i64 0, .int .i64 cl.n, .int .i64 cl.cut, .int .u8 cl.a, .int .u8 cl.b, .slice Af cl.fates.length cf] 27)) := (Below.refl _ _).alloc (Nat.le_refl _) _
                        have HDX := Lib.hid (HD.out.below hwb)
                        have HMX := Lib.hid (HMAY.out.below hwb)
                        have HBX := Lib.hid (HB.out.trans (hwb.mono HB.out.size))
                        have hnx : ∀ i, S i ∨ M i → i ≠ wr.heap.size := fun i hi e => by
                          rcases hi with hi | hi
                          · have := HD.out.lt i hi; omega
                          · have := HMAY.out.lt i hi; omega
                        have HNX := Lib.hid hnx; clear hnx
                        clear hwb g0 g1 g2 g3 g4 g5 HD HMAY HB
                        generalize wr.alloc (.cells #[.int .i64 0, .int .i64 cl.n, .int .i64 cl.cut, .int .u8 cl.a, .int .u8 cl.b, .slice Af cl.fates.length cf] 27) = w0 at *
                        generalize wr.heap.size = vb at *
                        have d0 : w0.cell? ⟨vb, 0, none⟩ = some (.int .i64 0) := cell_of_row _ _ _ _ _ (0, 0) hbx
                        have d1 : w0.cell? ⟨vb, 1, none⟩ = some (.int .i64 cl.n) := cell_of_row _ _ _ _ _ (0, 0) hbx
                        have d3 : w0.cell? ⟨vb, 3, none⟩ = some (.int .u8 cl.a) := cell_of_row _ _ _ _ _ (0, 0) hbx
                        have d4 : w0.cell? ⟨vb, 4, none⟩ = some (.int .u8 cl.b) := cell_of_row _ _ _ _ _ (0, 0) hbx
                        clear hbx
                        obtain ⟨D2, e2, hq⟩ : ∃ D2 e2, D.write cl.n (dat cl.a cl.b) = (D2, e2) := ⟨_, _, rfl⟩
                        have HQ := Lib.hid hq; clear hq
                        go_region_held3 (fun w' => w'.cell? ⟨vb, 0, none⟩ = some (.int .i64 0) ∧ w'.cell? ⟨vb, 1, none⟩ = some (.int .i64 cl.n) ∧ w'.cell? ⟨vb, 3, none⟩ = some (.int .u8 cl.a) ∧ w'.cell? ⟨vb, 4, none⟩ = some (.int .u8 cl.b)) (go_keep)
                          (first
                            | (go_at_call 13; refine (law_data cl.a cl.b _).mono ?_; rintro e w5 ⟨rfl, hb5⟩; have e0 : w5.cell? ⟨vb, 0, none⟩ = some (.int .i64 0) := cell_later hb5 d0; have e1 : w5.cell? ⟨vb, 1, none⟩ = some (.int .i64 cl.n) := cell_later hb5 d1; have e3 : w5.cell? ⟨vb, 3, none⟩ = some (.int .u8 cl.a) := cell_later hb5 d3; have e4 : w5.cell? ⟨vb, 4, none⟩ = some (.int .u8 cl.b) := cell_later hb5 d4; have HD5 : Hid (Dsk S w5 xd D) := Lib.hid (by first | exact HDX.out.below hb5 | exact HDX.out.drew.below hb5); have HM5 : Hid (MayW w.heap.size M w5 mb (fun i => mayL D0.fl D.op (i : Int))) := Lib.hid (by first | exact HMX.out.below hb5 | exact (HMX.out.below (Below.drew (Below.refl _ _))).below hb5); have HB5 : Hid (Below w.heap.size w w5) := Lib.hid (by first | exact HBX.out.trans (hb5.mono HBX.out.size) | exact HBX.out.drew.trans (hb5.mono HBX.out.size)); clear hb5)
                            | (go_at_call 12; refine (ds_write (by first | exact HD5.out | exact HD5.out.drew) cl.n (dat cl.a cl.b) (by rw [dat_size]; unfold maxLen; omega) (by omega) HR1'.out).mono ?_; rw [HQ.out]; rintro e w6 ⟨rfl, S6, hd6, hg6⟩; have k0 : w6.cell? ⟨vb, 0, none⟩ = some (.int .i64 0) := hg6.keep.cell e0 (fun h => HNX.out _ (.inl h) rfl); have k1 : w6.cell? ⟨vb, 1, none⟩ = some (.int .i64 cl.n) := hg6.keep.cell e1 (fun h => HNX.out _ (.inl h) rfl); have k3 : w6.cell? ⟨vb, 3, none⟩ = some (.int .u8 cl.a) := hg6.keep.cell e3 (fun h => HNX.out _ (.inl h) rfl); have k4 : w6.cell? ⟨vb, 4, none⟩ = some (.int .u8 cl.b) := hg6.keep.cell e4 (fun h => HNX.out _ (.inl h) rfl); have HD6 := Lib.hid hd6; have HM6 : Hid (MayW w.heap.size M w6 mb (fun i => mayL D0.fl D.op (i : Int))) := Lib.hid (by first | exact HM5.out.keep hg6.keep (fun i hi hs => HAP.out i hs hi) | exact (HM5.out.below (Below.drew (Below.refl _ _))).keep hg6.keep (fun i hi hs => HAP.out i hs hi)); have HAP6 : Hid (∀ i, S6 i → ¬ M i) := Lib.hid (fun i hi hm => by rcases hg6.new i hi with h | h; exact HAP.out i h hm; have := HM5.out.lt i hm; have h' : w5.heap.size ≤ i := h; omega); have HS6 : Hid (∀ i, S6 i → w.heap.size ≤ i) := Lib.hid (fun i hi => by rcases hg6.new i hi with h | h; exact HGE.out i h; exact Nat.le_trans HB5.out.size h); have HB6 : Hid (Below w.heap.size w w6) := Lib.hid ((by first | exact HB5.out | exact HB5.out.drew : Below w.heap.size w _).trans (hg6.keep.to_below HB5.out.size HGE.out)); have HZ6 : Hid (vb < w6.heap.size) := Lib.hid (World.block_lt_of_cell? w6 _ k0); clear hd6 hg6))
                        clear d0 d1 d3 d4 e0 e1 e3 e4 HD5 HM5 HB5 HDX HMX HBX
                        obtain ⟨rfl, rfl⟩ : e2 = 31 ∧ D2 = D := by
                          have := HQ.out.symm.trans HWR.out
                          exact ⟨congrArg (·.2) this, congrArg (·.1) this⟩
                        go_wp2_with fail
                        go_roundw
                        case rel => exact ⟨k + 1, D2, S6, M, by omega, by go_num, HD6.out, HCD.out, HFL.out, by omega, HM6.out, HAP6.out, HS6.out, HB6.out⟩
                        case measure => simp [intOf]; omega
                    · have hk0' : (cl.kind == 0) = false := by simpa using hk0
                      clear hk0
                      go_wp2_with fail
                      have hbx := heap_alloc_new wr (.cells #[.int .i64 cl.kind, .int .i64 cl.n, .int .i64 cl.cut, .int .u8 cl.a, .int .u8 cl.b, .slice Af cl.fates.length cf] 27)
                      have hwb : Below wr.heap.size wr (wr.alloc (.cells #[.int .i64 cl.kind, .int .i64 cl.n, .int .i64 cl.cut, .int .u8 cl.a, .int .u8 cl.b, .slice Af cl.fates.length cf] 27)) := (Below.refl _ _).alloc (Nat.le_refl _) _
                      have HDX := Lib.hid (HD.out.below hwb)
                      have HMX := Lib.hid (HMAY.out.below hwb)
                      have HBX := Lib.hid (HB.out.trans (hwb.mono HB.out.size))
                      have hnx : ∀ i, S i ∨ M i → i ≠ wr.heap.size := fun i hi e => by
                        rcases hi with hi | hi
                        · have := HD.out.lt i hi; omega
                        · have := HMAY.out.lt i hi; omega
                      have HNX := Lib.hid hnx; clear hnx
                      clear hwb g0 g1 g2 g3 g4 g5 HD HMAY HB
                      generalize wr.alloc (.cells #[.int .i64 cl.kind, .int .i64 cl.n, .int .i64 cl.cut, .int .u8 cl.a, .int .u8 cl.b, .slice Af cl.fates.length cf] 27) = w0 at *
                      generalize wr.heap.size = vb at *
                      have d0 : w0.cell? ⟨vb, 0, none⟩ = some (.int .i64 cl.kind) := cell_of_row _ _ _ _ _ (0, 0) hbx
                      have d1 : w0.cell? ⟨vb, 1, none⟩ = some (.int .i64 cl.n) := cell_of_row _ _ _ _ _ (0, 0) hbx
                      have d3 : w0.cell? ⟨vb, 3, none⟩ = some (.int .u8 cl.a) := cell_of_row _ _ _ _ _ (0, 0) hbx
                      have d4 : w0.cell? ⟨vb, 4, none⟩ = some (.int .u8 cl.b) := cell_of_row _ _ _ _ _ (0, 0) hbx
                      clear hbx
                      go_quiet (fail)
                      go_wp2_with fail
                      go_roundw
                      case rel => exact ⟨k + 1, D, S, M, by omega, by go_num, HDX.out.below (below_drewN _ _), HCD.out, HFL.out, by omega, HMX.out.below (below_drewN _ _), HAP.out, HGE.out, HBX.out.trans ((below_drewN _ _).mono HBX.out.size)⟩
                      case measure => simp [intOf]; omega
                  · go_wp2_with fail
                    refine (ds_crash HD.out (by omega) (HRF.out.below HB.out)).mono ?_
                    rintro e w5 ⟨xx, rfl, Sx, hdx, hbx, _⟩
                    have hwf := HD.out.wf
                    have hrd2 : ∀ j : Nat, j < 8 → (D.crash fs).read (j : Int) = ((crashFl D0.fl D.op fs (j : Int)).getD zb, 0) := fun j hj => by
                      have h8 := HCD.out.size
                      unfold DS.read
                      rw [show (D.crash fs).down = false from rfl, if_neg (by simp), if_neg (by show ¬ ((j : Int) < 0 ∨ D.size ≤ (j : Int)); omega), ← HFL.out]
                      simp [DS.crash, DS.new, opMap]
                    have hszs : ∀ j : Nat, ((crashFl D0.fl D.op fs (j : Int)).getD zb).size = 1024 := fun j => by
                      cases hq : crashFl D0.fl D.op fs (j : Int) with
                      | none => exact zb_size
                      | some t => exact crash_sizes fs D.op (fun x hx => (hwf.op x hx).2.2) D0.fl (fun k s h => (hwf.fl k s (by rw [HFL.out]; exact h)).2.2) _ t hq
                    have hszm : ∀ (j : Nat), ∀ t ∈ mayL D0.fl D.op (j : Int), t.size = 1024 := fun j t ht => by
                      rcases List.mem_cons.1 ht with rfl | ht
                      · cases hq : D0.fl (j : Int) with
                        | none => exact zb_size
                        | some t => exact (hwf.fl _ t (by rw [HFL.out]; exact hq)).2.2
                      · obtain ⟨x, hx, rfl⟩ := List.mem_map.1 ht
                        exact (hwf.op x (List.mem_filter.1 hx).1).2.2
                    have hmayx : ∀ (j : Nat) (i : Nat), i < 1024 → ∃ t ∈ mayL D0.fl D.op (j : Int), byteAt t i = byteAt ((crashFl D0.fl D.op fs (j : Int)).getD zb) i := fun j i hi => by
                      have := crash_may D0.fl fs (fun k s h => (hwf.fl k s (by rw [HFL.out]; exact h)).2.2) (j : Int) i hi D.op (fun x hx => (hwf.op x hx).2.2) D.op.length (Nat.le_refl _)
                      rwa [List.take_length] at this
                    have hlen : ∀ j : Nat, (mayL D0.fl D.op (j : Int)).length ≤ 200 ∧ 0 < (mayL D0.fl D.op (j : Int)).length := fun j => by
                      have := List.length_filter_le (fun x : Int × ByteArray => decide (x.1 = (j : Int))) D.op
                      simp only [mayL, List.length_cons, List.length_map]
                      omega
                    have HRD2 := Lib.hid hrd2; clear hrd2
                    have HSZS := Lib.hid hszs; clear hszs
                    have HSZM := Lib.hid hszm; clear hszm
                    have HMX := Lib.hid hmayx; clear hmayx
                    have HLEN := Lib.hid hlen; clear hlen
                    have HDX := Lib.hid hdx; clear hdx
                    have HMAYX := Lib.hid (HMAY.out.below hbx)
                    have HBX := Lib.hid (HB.out.trans (hbx.mono HB.out.size)); clear hbx hwf
                    clear HD HMAY HB HAP HGE
                    obtain ⟨DX, hdxe⟩ : ∃ DX, D.crash fs = DX := ⟨_, rfl⟩
                    have HDXO : Hid (DX.op.length = 0 ∧ DX.down = false) := Lib.hid (by rw [← hdxe]; exact ⟨rfl, rfl⟩)
                    rw [hdxe] at HRD2 HDX
                    clear hdxe
                    go_wp2_with fail
                    go_loopw [17] (fun v17 wr => ∃ m : Nat, m ≤ 8 ∧ v17 = .int .i64 m ∧ Dsk Sx wr xx DX ∧ MayW w.heap.size M wr mb (fun i => mayL D0.fl D.op (i : Int)) ∧ Below w.heap.size w wr) (fun v17 _ => 8 - (intOf v17).toNat)
                    case atStart => exact ⟨0, Nat.zero_le _, rfl, HDX.out, HMAYX.out, HBX.out⟩
                    case round =>
                      clear HDX HMAYX HBX
                      obtain ⟨m, hm8, rfl, hd, hmay, hb⟩ := hrel
                      have HD := Lib.hid hd; clear hd
                      have HMAY := Lib.hid hmay; clear hmay
                      have HB := Lib.hid hb; clear hb
                      by_cases hltm : m < 8
                      · have hmi : (m : Int) < 8 := by omega
                        have hmj : (0 : Int) ≤ (m : Int) := by omega
                        go_wp2_with fail
                        refine (ds_read HD.out m).mono ?_
                        rw [HRD2.out m hltm]
                        rintro e w6 ⟨rfl, hb6⟩
                        obtain ⟨s, hs⟩ : ∃ s, (crashFl D0.fl D.op fs (m : Int)).getD zb = s := ⟨_, rfl⟩
                        have hss := HSZS.out m
                        have hmx := HMX.out m
                        rw [hs] at hss hmx ⊢
                        have hs2 : ((s.size : Int) != 1024) = false := by simp; omega
                        have hs3 : ((s.size : Int) == 1024) = true := by simp; omega
                        have hsle : s.size ≤ 1024 := by omega
                        have hsge : 1024 ≤ s.size := by omega
                        have HMXS := Lib.hid hmx; clear hmx hss hs
                        have HD6 := Lib.hid (HD.out.below hb6)
                        have HMAY6 := Lib.hid (HMAY.out.below hb6)
                        have HB6 := Lib.hid (HB.out.trans (hb6.mono HB.out.size)); clear hb6 HD HMAY HB
                        obtain ⟨Ar, qr, hrow⟩ := HMAY6.out.row m hltm
                        have hlm := HLEN.out m
                        have hszm := HSZM.out m
                        generalize hLe : mayL D0.fl D.op (m : Int) = L at *
                        have hcell := hrow.cell
                        have hown := hrow.own
                        simp only [hLe] at hcell hown
                        have HLE := Lib.hid hLe; clear hLe hrow
                        obtain ⟨hl1, hl2⟩ := hlm
                        obtain ⟨gb, qb, hv, _, _⟩ := hown.form hl2
                        obtain ⟨rfl, rfl⟩ : Ar = some ⟨gb, 0, none⟩ ∧ qr = qb := by injection hv with h1 _ h3; exact ⟨h1, h3⟩
                        have hlc : ∀ j, j < L.length → w6.cell? ⟨gb, j, none⟩ = some (.string (L.getD j zb)) := fun j hj => by
                          rw [hown.cellAt j (by omega), List.getElem?_map, List.getElem?_eq_getElem hj, List.getD_eq_getElem?_getD, List.getElem?_eq_getElem hj]; rfl
                        have HLC := Lib.hid hlc; clear hlc hv hown
                        have HSM := Lib.hid hszm; clear hszm
                        go_wp2_with fail
                        go_loopw [20] (fun v20 wr => ∃ i : Nat, i ≤ s.size ∧ v20 = .int .i64 i ∧ Below w6.heap.size w6 wr) (fun v20 _ => s.size - (intOf v20).toNat)
                        case atStart => exact ⟨0, Nat.zero_le _, rfl, Below.refl _ _⟩
                        case round =>
                          obtain ⟨i, hi, rfl, hb7⟩ := hrel
                          have HB7 := Lib.hid hb7; clear hb7
                          by_cases hlti : i < s.size
                          · obtain ⟨t0, ht0, hb0⟩ := HMXS.out i (by omega)
                            obtain ⟨j0, hj0, hje⟩ := List.mem_iff_getElem.1 ht0
                            have hj0b : byteAt (L.getD j0 zb) i = byteAt s i := by rw [List.getD_eq_getElem?_getD, List.getElem?_eq_getElem hj0, Option.getD_some, hje]; exact hb0
                            have HJ0 := Lib.hid hj0b; clear hj0b hje hb0 ht0
                            have hix := fun W => index_at s i hlti W
                            go_wp2_with fail
                            go_loopw [21, 22] (fun v21 v22 wr => ∃ (j : Nat) (b : Bool), j ≤ L.length ∧ v22 = .int .i64 j ∧ v21 = .bool b ∧ (b = false → ∀ i', i' < j → byteAt (L.getD i' zb) i ≠ byteAt s i) ∧ Below w6.heap.size w6 wr) (fun _ v22 _ => L.length - (intOf v22).toNat)
                            case atStart => exact ⟨0, false, Nat.zero_le _, rfl, rfl, fun _ i' h => by omega, HB7.out⟩
                            case round =>
                              clear HB7
                              obtain ⟨j, b, hj, rfl, rfl, hbf, hb8⟩ := hrel
                              have HBF := Lib.hid hbf; clear hbf
                              have cm := cell_later hb8 hcell
                              have HB8 := Lib.hid hb8; clear hb8
                              cases b with
                              | true =>
                                by_cases hltj : j < L.length
                                all_goals
                                  go_wp2_with fail
                                  go_roundw
                                  case rel => exact ⟨i + 1, by omega, by go_num, HB8.out⟩
                                  case measure => simp [intOf]; omega
                              | false =>
                                by_cases hltj : j < L.length
                                · have cl := cell_later HB8.out (HLC.out j hltj)
                                  have hsl : (L.getD j zb).size = 1024 := HSM.out _ (by rw [List.getD_eq_getElem?_getD, List.getElem?_eq_getElem hltj]; exact List.getElem_mem _)
                                  have hiy := fun W => index_at (L.getD j zb) i (by omega) W
                                  clear hsl
                                  have hji : (j : Int) < L.length := by omega
                                  have hjj : (0 : Int) ≤ (j : Int) := by omega
                                  generalize hte : L.getD j zb = t at *
                                  have HTE := Lib.hid hte; clear hte
                                  by_cases heq : byteAt t i = byteAt s i
                                  · have hq : (((byteAt t i).toNat : Int) == ((byteAt s i).toNat : Int)) = true := by rw [heq]; simp
                                    have HEQ := Lib.hid heq; clear heq
                                    generalize ((byteAt t i).toNat : Int) = bt at *
                                    generalize ((byteAt s i).toNat : Int) = bs at *
                                    go_wp2_with fail
                                    go_quiet (fail)
                                    go_wp2_with fail
                                    go_roundw
                                    case rel => exact ⟨j + 1, true, by omega, by go_num, rfl, fun h => (by cases h), HB8.out.trans ((below_drewN _ _).mono HB8.out.size)⟩
                                    case measure => simp [intOf]; omega
                                  · have hq : (((byteAt t i).toNat : Int) == ((byteAt s i).toNat : Int)) = false := by
                                      rw [beq_eq_false_iff_ne]
                                      intro h
                                      exact heq (UInt8.toNat_inj.1 (by omega))
                                    have HEQ := Lib.hid heq; clear heq
                                    generalize ((byteAt t i).toNat : Int) = bt at *
                                    generalize ((byteAt s i).toNat : Int) = bs at *
                                    go_wp2_with fail
                                    go_quiet (fail)
                                    go_wp2_with fail
                                    go_roundw
                                    case rel => exact ⟨j + 1, false, by omega, by go_num, rfl, fun _ i' hi' => by
                                      by_cases e : i' = j
                                      · rw [e, HTE.out]; exact HEQ.out
                                      · exact HBF.out (by simp) i' (by omega), HB8.out.trans ((below_drewN _ _).mono HB8.out.size)⟩
                                    case measure => simp [intOf]; omega
                                · exact absurd HJ0.out (HBF.out (by simp) j0 (by omega))
                          · go_wp2_with fail
                            go_roundw
                            case rel => exact ⟨m + 1, by omega, by go_num, HD6.out.below HB7.out, HMAY6.out.below HB7.out, HB6.out.trans (HB7.out.mono HB6.out.size)⟩
                            case measure => simp [intOf]; omega
                      · go_wp2_with (first
                          | (go_at_call 15; refine (ds_open HD.out).mono ?_; rw [HDXO.out.1]; rintro e w' ⟨rfl, rfl⟩)
                          | (go_at_call 16; refine (ds_down HD.out).mono ?_; rw [HDXO.out.2]; rintro e w' ⟨rfl, rfl⟩))
                        go_ret
                        exact ⟨by simp, HB.out⟩
end Go.Proofs.Ytbgcglojgohjdaa
