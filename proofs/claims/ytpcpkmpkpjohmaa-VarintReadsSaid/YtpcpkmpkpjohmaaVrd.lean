/- VarintReads' walk. -/
import Derived.Test.YtpcpkmpkpjohmaaVt
import Derived.Test.YtpcpkmpkpjohmaaRo
import Derived.Test.YtpcpkmpkpjohmaaWe
import Derived.Deep.RegionWith
import Derived.Deep.DeepCutAuto
import Derived.Deep.QuietTactic
import Derived.BigQuiet
namespace Go.Proofs.Ytpcpkmpkpjohmaa
open Go.RowKit
attribute [local go_sem] max_int2 min_int2

theorem xor255 (c : UInt8) : ∃ c' : UInt8, bits .xor .u8 (c.toNat : Int) 255 = (c'.toNat : Int) := by
  have h := c.toNat_lt
  have hx : c.toNat ^^^ 255 < 2 ^ 8 := Nat.xor_lt_two_pow (by omega) (by omega)
  refine ⟨UInt8.ofNat (c.toNat ^^^ 255), ?_⟩
  have h2 : (255 : Int) = ((255 : Nat) : Int) := rfl
  rw [h2, u8_xor_nat _ _ h (by omega)]
  simp

theorem vi_get {k : IntKind} {l : List Int} {i : Nat} {x : Int} (h : l[i]? = some x) : (vi k l)[i]? = some (.int k x) := by simp [vi, h]

theorem u16_quo {x : Int} (h0 : 0 ≤ x) (h1 : x ≤ 65535) (d : Int) (hd : 0 < d) : IntKind.u16.wrap (x.tdiv d) = x / d := by
  rw [IntKind.wrap_u16, Int.tdiv_eq_ediv_of_nonneg h0]
  have h2 : 0 ≤ x / d := Int.ediv_nonneg h0 (by omega)
  have h3 : x / d ≤ x := Int.ediv_le_self _ h0
  omega
theorem q65 {x : Int} (h0 : 0 ≤ x) (h1 : x ≤ 65535) : ∃ q : Nat, (IntKind.u16.wrap (x.tdiv 4)).tmod 65 = (q : Int) ∧ q ≤ 64 := by
  rw [u16_quo h0 h1 4 (by omega), Int.tmod_eq_emod_of_nonneg (by omega)]
  exact ⟨(x / 4 % 65).toNat, by omega, by omega⟩

theorem wrap_nat (E : Int) : ∃ M : Nat, IntKind.u64.wrap E = (M : Int) := by
  rw [IntKind.wrap_u64]
  exact ⟨(E % 18446744073709551616).toNat, by omega⟩
theorem h16 {x : Int} (h0 : 0 ≤ x) (h1 : x ≤ 65535) : ∃ h : Nat, IntKind.u16.wrap (x.tdiv 2) = (h : Int) ∧ h ≤ 32767 := by
  rw [u16_quo h0 h1 2 (by omega)]
  exact ⟨(x / 2).toNat, by omega, by omega⟩

/-- One call, of either reader. -/
def RdS.step (s : RdS) (x : Int) (M : Nat) : RdS := if x % 2 = 0 then (s.number M).2 else (s.bytes (x / 2 % 300 - 2)).2

set_option maxHeartbeats 4000000 in
set_option maxRecDepth 100000 in
theorem vreads_walk (A : Option Addr) (n c : Nat) (b : List UInt8) (hl : b.length = n) (_hn : n ≤ c) (_hm : c ≤ maxLen) (_hA : A = none → n = 0 ∧ c = 0)
    (L : Option Addr) (m cl : Nat) (l : List Int) (hl2 : l.length = m) (_hn2 : m ≤ cl) (_hm2 : cl ≤ maxLen) (_hA2 : L = none → m = 0 ∧ cl = 0) (hw : ∀ x ∈ l, (Lit.int .u16 x).wf = true) (w : World) (hr : Rd w w.heap.size A (vb b)) (hrl : Rd w w.heap.size L (vi .u16 l)) :
    Calls Try.prog 11 #[.slice A n c, .slice L m cl] w fun e w' => e = .returned (.bool true) ∧ Below w.heap.size w w' := by
  have Hl := Lib.hid hl
  have Hl2 := Lib.hid hl2
  have Hw := Lib.hid hw
  clear hl hl2 hw
  have early : (2000 : Int) < (n : Int) ∨ (60 : Int) < (m : Int) ∨ (¬ (2000 : Int) < (n : Int) ∧ ¬ (60 : Int) < (m : Int)) := by omega
  rcases early with h1 | h1
  · go_enter Try.func11, Try.ntmps11
    go_wp2_with fail
    refine (vlives w).mono ?_
    rintro e w1 ⟨rfl, hb1⟩
    go_wp2_with fail
    refine (vlives w1).mono ?_
    rintro e w2 ⟨rfl, hb2⟩
    go_wp2
    go_ret
    exact ⟨rfl, below_tr hb1 hb2⟩
  by_cases h0 : (2000 : Int) < (n : Int)
  · go_enter Try.func11, Try.ntmps11
    go_wp2_with fail
    refine (vlives w).mono ?_
    rintro e w1 ⟨rfl, hb1⟩
    go_wp2_with fail
    refine (vlives w1).mono ?_
    rintro e w2 ⟨rfl, hb2⟩
    go_wp2
    go_ret
    exact ⟨rfl, below_tr hb1 hb2⟩
  rcases h1 with h1 | ⟨_, h1⟩
  · go_enter Try.func11, Try.ntmps11
    go_wp2_with fail
    refine (vlives w).mono ?_
    rintro e w1 ⟨rfl, hb1⟩
    go_wp2_with fail
    refine (vlives w1).mono ?_
    rintro e w2 ⟨rfl, hb2⟩
    go_wp2
    go_ret
    exact ⟨rfl, below_tr hb1 hb2⟩
  go_enter Try.func11, Try.ntmps11
  go_wp2_with fail
  refine (vlives w).mono ?_
  rintro e w1 ⟨rfl, hb1⟩
  have hr1 := hr.below_ hb1
  have hn0 : n ≤ 2000 := by omega
  go_wp2_with (at_builtin; refine wpList_copy_bytes w1 rfl (.tmp 27) (.tmp 28) _ rfl _ _ elm_u8 rfl A n c b rfl Hl.out hr1 (by omega) ?_; intro Ao co w2 hC1)
  have hbw2 : Below w.heap.size w w2 := below_tr hb1 hC1.below
  have hlo1 := hb1.size
  refine (open_any Ao n co _ b w2 Hl.out (by omega) hC1.nil hC1.rd).mono ?_
  rintro e w3 ⟨gr, rfl, hgr, hrr, hb3⟩
  have hbw3 := below_tr hbw2 hb3
  have hr3 := hr.below_ hbw3
  have hown3 := own_keep hC1.own hb3.block
  go_wp2_with (at_builtin; refine wpList_copy_bytes w3 rfl (.tmp 32) (.tmp 33) _ rfl _ _ elm_u8 rfl A n c b rfl Hl.out hr3 (by omega) ?_; intro Am cm w4 hC2)
  have hb5 : Below w.heap.size w (w4.alloc (.cells #[.slice Am n cm, .int .i64 0] 72)) := below_al (below_tr hbw3 hC2.below) _
  have hf5 : Frm w3 (w4.alloc (.cells #[.slice Am n cm, .int .i64 0] 72)) [] := (Frm.of_below hC2.below []).alloc _
  have hown5 := own_keep hown3 (fun k hk => hf5.block k hk (by simp))
  have hrr5 := hrr.frm hf5 (by simp) hgr
  have hrm5 : Rr (w4.alloc (.cells #[.slice Am n cm, .int .i64 0] 72)) 72 w3.heap.size w4.heap.size ⟨b, 0⟩ :=
    ⟨Am, n, cm, Bk.new _ _ _, Hl.out, hC2.cap, hC2.max, by omega, hC2.rd.alloc (Nat.le_refl _) _, lo_own hC2.own⟩
  have hgr3 := hrr.lt
  have hz4 := hC2.below.size
  have hz2 := hC1.below.size
  have hblk : ∀ g ∈ (Value.slice Ao n co).ownBlock.toList, w.heap.size ≤ g ∧ g < w2.heap.size := fun g hg => by
    have := hC1.own.lt g (by simpa using hg)
    omega
  have Hblk := Lib.hid hblk
  have Hn0 : Hid (n ≤ 2000) := by show n ≤ 2000; omega
  clear hC1 hC2 hown3 hrr hf5 hblk hbw2 hbw3 hr3
  generalize hW5 : w4.alloc (.cells #[.slice Am n cm, .int .i64 0] 72) = W5 at *
  have HW5 := Lib.hid hW5
  clear hW5
  go_loopw [39] (fun i wr => ∃ (k : Nat) (lb : List UInt8), k ≤ n ∧ i = .int .i64 k ∧ Hid (lb.length = n) ∧ wr.ownsRow w1.heap.size 5 1 (.slice Ao n co) n (vb lb) ∧ Frm W5 wr (Value.slice Ao n co).ownBlock.toList) (fun i _ => n - (intOf i).toNat)
  case atStart => exact ⟨0, b, Nat.zero_le _, rfl, Hl, hown5, Frm.refl _ _⟩
  case round =>
    obtain ⟨k, lb, hk, rfl, HL, hown, hfr⟩ := hrel
    by_cases hlt : k < n
    · obtain ⟨g, cap, hv, hgb, hgl⟩ := hown.form (by omega)
      simp only [Value.slice.injEq, true_and] at hv
      obtain ⟨rfl, rfl⟩ := hv
      have hkl : k < lb.length := by have := HL.out; omega
      have hcell := (hown.cellAt k (by omega)).trans (vb_get lb k hkl)
      have hfree := hown.frozenAt k
      obtain ⟨c', hc'⟩ := xor255 lb[k]
      go_wp2_with fail
      have hst := hown.stored k (.int .u8 (c'.toNat : Int))
      have hvs : (vb lb).set k (.int .u8 (c'.toNat : Int)) = vb (lb.set k c') := by simp [vb, List.map_set]
      rw [hvs] at hst
      go_roundw
      case rel => exact ⟨k + 1, lb.set k c', by omega, by go_num, by show _ = _; rw [List.length_set]; exact HL.out, hst.1, hfr.grown hst.2 (fun g' hg' => .inl (by simpa [Value.ownBlock] using hg'.symm))⟩
      case measure => simp [intOf]; omega
    · go_wp2_with fail
      have hb6 : Below w.heap.size w wr := hb5.trans (hfr.below (fun g hg => (Hblk.out g hg).1) hb5.size)
      have hrr6 := hrr5.frm hfr (fun g hg => by have := Hblk.out g hg; omega) hgr
      have hrm6 := hrm5.frm hfr (fun g hg => by have := Hblk.out g hg; have := hb3.size; omega) hz4
      have Hgs : Hid (gr < w3.heap.size ∧ w3.heap.size ≤ w4.heap.size ∧ w2.heap.size ≤ gr ∧ w.heap.size ≤ w2.heap.size) := ⟨hgr3, hz4, hgr, Nat.le_trans hlo1 hz2⟩
      clear hown hfr hrr5 hrm5 hb5 hown5 HL hgr3 hz4 hgr hlo1 hz2 hb3 Hblk h1 h0
      generalize w4.heap.size = gm at *
      generalize w3.heap.size = lom at *
      generalize w2.heap.size = lor at *
      obtain ⟨wx, rfl⟩ : ∃ wx : World, wx = wr := ⟨_, rfl⟩
      go_loopw [51] (fun i wr => ∃ (k : Nat) (s : RdS), k ≤ m ∧ i = .int .i64 k ∧ Rr wr 85 lor gr s ∧ Rr wr 72 lom gm s ∧ Below w.heap.size w wr) (fun i _ => m - (intOf i).toNat)
      case atStart => exact ⟨0, ⟨b, 0⟩, Nat.zero_le _, rfl, hrr6, hrm6, hb6⟩
      case round =>
        obtain ⟨k, s, hk, rfl, hrr, hrm, hbr⟩ := hrel
        by_cases hlt : k < m
        · obtain ⟨x, hx⟩ : ∃ x, l[k]? = some x := ⟨l[k]'(by have := Hl2.out; omega), List.getElem?_eq_getElem _⟩
          have hwf := bounds_u16 (Hw.out x (List.mem_of_getElem? hx))
          obtain ⟨bL, oL, rfl, hbL, hcell⟩ := hrl k _ (vi_get hx)
          rw [← hbr.cell (p := ⟨bL, oL + k, none⟩) hbL] at hcell
          obtain ⟨hx0, hx1⟩ := hwf
          obtain ⟨q, hq, hq64⟩ := q65 hx0 hx1
          have hq0 : (0 : Int) ≤ (q : Int) := by omega
          have hq1 : (q : Int) ≤ 64 := by omega
          go_upto_if 63 with (fail)
          obtain ⟨M0, hM0⟩ := wrap_nat (IntKind.u64.wrap ((2 : Int) ^ q) - 1)
          go_cut [11] (fun v wc => ∃ M : Nat, v = .int .u64 (M : Int) ∧ wr = wc)
          case first =>
            clear hM0
            go_wp2
            all_goals go_meet
            · exact ⟨18446744073709551615, rfl, rfl⟩
            · obtain ⟨M1, hM1⟩ := wrap_nat (IntKind.u64.wrap ((2 : Int) ^ q) - 1)
              exact ⟨M1, by rw [hM1], rfl⟩
          case rest =>
            obtain ⟨M, rfl, rfl⟩ := hcut
            clear hM0 hq hq64 hq0 hq1 hx
            have hpar : x % 2 = 0 ∨ x % 2 = 1 := by omega
            go_upto_if 66 with (fail)
            go_cut [] (fun wc => ∃ s' : RdS, Rr wc 85 lor gr s' ∧ Rr wc 72 lom gm s' ∧ Below w.heap.size w wc)
            case first =>
              rcases hpar with hp | hp
              · have hp' : (x % 2 == 0) = true := beq_iff_eq.2 hp
                clear hp
                go_wp2_with fail
                refine (number_any wr lor gr s M hrr).mono ?_
                rintro e w5 ⟨rfl, hrr1, hf1, _⟩
                have hrm1 := hrm.frm hf1 (by have := Hgs.out; simp; omega) (by have := Hgs.out; omega)
                go_wp2_with fail
                refine (refnumber_any w5 lom gm s M hrm1).mono ?_
                rintro e w6 ⟨rfl, hrm2, hf2, _⟩
                have hrr2 := hrr1.frm hf2 (by have := Hgs.out; simp; omega) (by have := Hgs.out; omega)
                go_wp2
                go_meet
                exact ⟨_, hrr2, hrm2, (hbr.trans (hf1.below (by have := Hgs.out; simp; omega) hbr.size)).trans (hf2.below (by have := Hgs.out; simp; omega) (Nat.le_trans hbr.size hf1.size))⟩
              · have hp' : (x % 2 == 0) = false := beq_eq_false_iff_ne.2 (by omega)
                obtain ⟨h, hh, hh1⟩ := h16 hx0 hx1
                clear hp
                go_upto_region 20 with (fail)
                go_region_with (first | (go_at_call 38; refine (bytes_any _ lor gr s _ (by omega) (by exact hrr)).mono ?_; rintro e w5 ⟨A1, rfl, hd1, hlo1, hrr1, hf1, _⟩; have hf1' : Frm wr w5 [gr] := ⟨hf1.1, hf1.2, hf1.3, hf1.4, hf1.5⟩; have hstr1 := run_string_rd (P := Try.prog) w5 22 9 5 Try.underlying22 Try.underlying5 Try.underlying9 _ ((s.bytes ((h : Int) % 300 - 2)).1.length) _ rfl hd1; have hrm1 := hrm.frm hf1' (by have := Hgs.out; simp; omega) (by have := Hgs.out; omega)) |
                  (go_at_call 43; refine (refbytes_any _ lom gm s _ (by omega) (by exact hrm1)).mono ?_; rintro e w6 ⟨A2, c2, rfl, hd2, hlo2, hrm2, hf2, _⟩; have hrr2 := hrr1.frm hf2 (by have := Hgs.out; simp; omega) (by have := Hgs.out; omega); have hstr2 := run_string_rd (P := Try.prog) w6 22 9 5 Try.underlying22 Try.underlying5 Try.underlying9 _ c2 _ rfl hd2;
                    have hstr3 := run_string_rd (P := Try.prog) w6 22 9 5 Try.underlying22 Try.underlying5 Try.underlying9 _ ((s.bytes ((h : Int) % 300 - 2)).1.length) _ rfl (hd1.frm hf2 (Nat.le_of_lt hrr1.lt) (by have := Hgs.out; simp; omega))))
                all_goals
                  go_wp2
                  go_meet
                  exact ⟨_, hrr2, hrm2, (hbr.trans (hf1'.below (by have := Hgs.out; simp; omega) hbr.size)).trans (hf2.below (by have := Hgs.out; simp; omega) (Nat.le_trans hbr.size hf1'.size))⟩
            case rest =>
              obtain ⟨s', hrr', hrm', hbr'⟩ := hcut
              have hrm2 := hrm'
              obtain ⟨Ax, nx, cx, hbx, hlx, _⟩ := hrm2
              have h0 : wc.cell? ⟨gm, 0, none⟩ = some (.slice Ax nx cx) := hbx.cell 0
              have h1 : wc.cell? ⟨gm, 1, none⟩ = some (.int .i64 (s'.e : Int)) := hbx.cell 1
              have hcase : (((s'.e : Int) == 0) = false ∧ s'.fin = s'.e) ∨ (((s'.e : Int) == 0) = true ∧ (0 : Int) < (nx : Int) ∧ s'.fin = 5) ∨ (((s'.e : Int) == 0) = true ∧ ¬ (0 : Int) < (nx : Int) ∧ s'.fin = 0 ∧ s'.e = 0) := by
                simp only [beq_iff_eq, beq_eq_false_iff_ne, ne_eq, RdS.fin]
                by_cases he : s'.e = 0
                · by_cases hx : 0 < nx
                  · refine .inr (.inl ⟨by omega, by omega, ?_⟩)
                    rw [if_neg (by omega), if_pos (by omega)]
                  · refine .inr (.inr ⟨by omega, by omega, ?_, he⟩)
                    rw [if_neg (by omega), if_neg (by omega)]
                · refine .inl ⟨by omega, ?_⟩
                  rw [if_pos (by omega)]
              clear hlx hbx hpar
              have hfa := fun (W : World) (h : Rr W 85 lor gr s') => failed_any W lor gr s' h
              have hea := fun (W : World) (h : Rr W 85 lor gr s') => end_any W lor gr s' h
              rcases hcase with ⟨q1, q2⟩ | ⟨q1, q3, q2⟩ | ⟨q1, q3, q2, q4⟩
              rotate_left 2
              rw [q4] at hfa h1
              rotate_right 2
              all_goals
                rw [q2] at hea
                have Hfa := Lib.hid hfa
                have Hea := Lib.hid hea
                clear q2 hfa hea
                try clear q4
                go_upto_region 25 with (fail)
                go_region_with (first | (go_at_call 39; refine (Hfa.out _ (by exact hrr')).mono ?_; rintro e w9 ⟨rfl, rfl⟩) | (go_at_call 40; refine (Hea.out _ (by exact hrr')).mono ?_; rintro e w9 ⟨rfl, rfl⟩))
                all_goals
                  go_wp2
                  go_roundw
                  case rel => exact ⟨k + 1, s', by omega, by go_num, hrr', hrm', hbr'.drew⟩
                  case measure => simp [intOf]; omega
        · go_wp2
          go_ret
          exact ⟨rfl, hbr⟩
end Go.Proofs.Ytpcpkmpkpjohmaa
