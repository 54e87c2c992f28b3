/- The laws of layer 4, walked. -/
import Derived.Test.YtpcpkmpkpjohmaaPw
import Derived.Test.YtpcpkmpkpjohmaaRo
import Derived.RegionTactic
import Derived.Deep.QuietTactic
import Derived.BigQuiet
namespace Go.Proofs.Ytpcpkmpkpjohmaa
open Go.RowKit
attribute [local go_sem] max_int2 min_int2

set_option maxHeartbeats 1000000 in
theorem plives (w : World) : Calls Try.prog 17 #[] w fun e w' => e = .returned (.bool true) ∧ Below w.heap.size w w' := by
  go_enter Try.func17, Try.ntmps17
  go_wp2_with fail
  refine (pow_new w).mono ?_
  rintro e w1 ⟨g, rfl, hg, hp, hb⟩
  go_wp2_with fail
  refine (pow_plan w1 g _ 1 3 hp (by omega)).mono ?_
  rintro e w2 ⟨rfl, hp2, hf2, _⟩
  go_wp2_with fail
  refine (pow_write w2 g _ 9 hp2).mono ?_
  rintro e w3 ⟨rfl, hp3, hf3, _⟩
  rw [show (PowS.new.planned 1 3).gone 9 = (9, 0) from by decide]
  go_wp2_with fail
  refine (pow_write w3 g _ 9 hp3).mono ?_
  rintro e w4 ⟨rfl, hp4, hf4, _⟩
  rw [show ((PowS.new.planned 1 3).wrote 9).gone 9 = (3, 11) from by decide]
  go_wp2_with fail
  refine (pow_on w4 g _ hp4).mono ?_
  rintro e w5 ⟨rfl, rfl⟩
  rw [show (((PowS.new.planned 1 3).wrote 9).wrote 9).off = true from by decide]
  go_wp2
  go_ret
  exact ⟨rfl, ((((Frm.of_below hb []).tr hf2 (by simp [hg])).tr hf3 (by simp [hg])).tr hf4 (by simp [hg])).below (by simp) (Nat.le_refl _)⟩

set_option maxHeartbeats 1000000 in
theorem pnil_walk (n : Int) (_hw : (Lit.int .i64 n).wf = true) (w : World) : Calls Try.prog 5 #[.int .i64 n] w fun e w' => e = .returned (.bool true) ∧ Below w.heap.size w w' := by
  go_enter Try.func5, Try.ntmps5
  go_wp2_with fail
  refine (plives w).mono ?_
  rintro e w1 ⟨rfl, hb⟩
  go_wp2_with fail
  refine (pow_plan_nil w1 n n).mono ?_
  rintro e w2 ⟨rfl, rfl⟩
  go_wp2_with fail
  refine (pow_up_nil w1).mono ?_
  rintro e w2 ⟨rfl, rfl⟩
  go_wp2_with fail
  refine (pow_write_nil w1 n).mono ?_
  rintro e w2 ⟨rfl, rfl⟩
  by_cases hn : n < 0
  · rw [if_pos hn]
    go_wp2_with fail
    refine (pow_on_nil w1).mono ?_
    rintro e w2 ⟨rfl, rfl⟩
    go_wp2_with fail
    refine (pow_count_nil w1).mono ?_
    rintro e w2 ⟨rfl, rfl⟩
    go_wp2
    go_ret
    exact ⟨rfl, hb⟩
  · rw [if_neg hn]
    go_wp2_with fail
    refine (pow_on_nil w1).mono ?_
    rintro e w2 ⟨rfl, rfl⟩
    go_wp2_with fail
    refine (pow_count_nil w1).mono ?_
    rintro e w2 ⟨rfl, rfl⟩
    go_wp2
    go_ret
    exact ⟨rfl, hb⟩

structure ActS where
  kind : Int
  n : Int
  torn : Int
def ActS.cells (a : ActS) : List Value := [.int .u8 a.kind, .int .i64 a.n, .int .i64 a.torn]
def ActS.ok (a : ActS) : Prop := (0 ≤ a.kind ∧ a.kind < 256) ∧ (-9223372036854775808 ≤ a.n ∧ a.n ≤ 9223372036854775807) ∧ (-9223372036854775808 ≤ a.torn ∧ a.torn ≤ 9223372036854775807)

/-- How the power stands to what the law keeps. -/
def Sim (p : PowS) (on : Bool) (plan torn count : Int) : Prop :=
  p.off = (!on) ∧ p.count = count ∧ p.torn = torn ∧ plan = (if p.plan then p.after else -1) ∧ (p.plan = true → 0 ≤ p.after)

theorem wrap_small {x : Int} (h0 : 0 ≤ x) (h1 : x ≤ 1000000) : wrap64 x = x := by unfold wrap64; omega
theorem Sim.planned {p : PowS} {on : Bool} {plan torn count : Int} (h : Sim p on plan torn count) (a t : Int) : Sim (p.planned a t) on (max a (-1)) t count := by
  obtain ⟨h1, h2, h3, h4, h5⟩ := h
  refine ⟨h1, h2, rfl, ?_, ?_⟩
  · show max a (-1) = if decide (0 ≤ a) = true then a else -1
    by_cases ha : 0 ≤ a
    · simp [ha]; omega
    · simp [ha]; omega
  · intro h
    exact of_decide_eq_true h
theorem Sim.up {p : PowS} {on : Bool} {plan torn count : Int} (h : Sim p on plan torn count) : Sim p.up true (-1) torn count := by
  obtain ⟨h1, h2, h3, h4, h5⟩ := h
  exact ⟨rfl, h2, h3, rfl, fun h => by cases h⟩
theorem Sim.write {p : PowS} {on : Bool} {plan torn count : Int} (h : Sim p on plan torn count) (n : Int) (hc : 0 ≤ count ∧ count ≤ 1000) :
    (n < 0 → p.gone n = (0, 1) ∧ p.wrote n = p) ∧ (¬ n < 0 → on = false → p.gone n = (0, 11) ∧ p.wrote n = p) ∧
    (¬ n < 0 → on = true → plan = 0 → p.gone n = (min (max torn 0) n, 11) ∧ Sim (p.wrote n) false (-1) torn (count + 1)) ∧
    (¬ n < 0 → on = true → plan ≠ 0 → p.gone n = (n, 0) ∧ Sim (p.wrote n) true (max (plan - 1) (-1)) torn (count + 1)) := by
  obtain ⟨h1, h2, h3, h4, h5⟩ := h
  obtain ⟨pl, af, to, off, co⟩ := p
  simp only at h1 h2 h3 h4 h5
  subst h1 h2 h3
  have hw : wrap64 (co + 1) = co + 1 := wrap_small (by omega) (by omega)
  refine ⟨fun hn => ?_, fun hn ho => ?_, fun hn ho hp => ?_, fun hn ho hp => ?_⟩
  · simp [PowS.gone, PowS.wrote, hn]
  · subst ho
    simp [PowS.gone, PowS.wrote, hn]
  · subst ho
    cases pl with
    | false => simp at h4; omega
    | true =>
      simp at h4 h5
      obtain rfl : af = 0 := by omega
      simp [PowS.gone, PowS.wrote, hn, Sim, hw]
  · subst ho
    cases pl with
    | false =>
      simp at h4
      subst h4
      simp [PowS.gone, PowS.wrote, hn, Sim, hw]
      decide
    | true =>
      simp at h4 h5
      subst h4
      have ha : 0 < plan := by omega
      simp [PowS.gone, PowS.wrote, hn, ha, Sim, hw]
      omega
theorem on_sim {w : World} {g : Nat} {p : PowS} {on : Bool} {plan torn count : Int} (h : Pw w g p) (hs : Sim p on plan torn count) :
    Calls Try.prog 22 #[.pointer (some ⟨g, 0, none⟩)] w fun e w' => e = .returned (.bool on) ∧ w = w' := by
  have := pow_on w g p h
  rw [hs.1, Bool.not_not] at this
  exact this
theorem count_sim {w : World} {g : Nat} {p : PowS} {on : Bool} {plan torn count : Int} (h : Pw w g p) (hs : Sim p on plan torn count) :
    Calls Try.prog 23 #[.pointer (some ⟨g, 0, none⟩)] w fun e w' => e = .returned (.int .i64 count) ∧ w = w' := by
  have := pow_count w g p h
  rw [hs.2.1] at this
  exact this

theorem flat3 (l : List ActS) (k : Nat) (a : ActS) (h : l[k]? = some a) : (l.flatMap ActS.cells)[k * 3]? = some (.int .u8 a.kind) ∧ (l.flatMap ActS.cells)[k * 3 + 1]? = some (.int .i64 a.n) ∧ (l.flatMap ActS.cells)[k * 3 + 2]? = some (.int .i64 a.torn) := by
  induction l generalizing k with
  | nil => simp at h
  | cons b l ih =>
    cases k with
    | zero =>
      simp at h
      subst h
      simp [ActS.cells]
    | succ k =>
      have := ih k (by simpa using h)
      rw [List.flatMap_cons]
      have e : (k + 1) * 3 = 3 + k * 3 := by omega
      rw [e, show 3 + k * 3 + 1 = 3 + (k * 3 + 1) from by omega, show 3 + k * 3 + 2 = 3 + (k * 3 + 2) from by omega]
      have hl : b.cells.length = 3 := rfl
      rw [List.getElem?_append_right (by omega), List.getElem?_append_right (by omega), List.getElem?_append_right (by omega), hl]
      simpa using this

set_option maxHeartbeats 2000000 in
set_option maxRecDepth 100000 in
theorem pacts_walk (A : Option Addr) (n c : Nat) (l : List ActS) (hl : l.length = n) (hok : ∀ a ∈ l, a.ok) (w : World) (hr : Rd w w.heap.size A (l.flatMap ActS.cells)) :
    Calls Try.prog 4 #[.slice A n c] w fun e w' => e = .returned (.bool true) ∧ Below w.heap.size w w' := by
  have Hl := Lib.hid hl
  have Hok := Lib.hid hok
  clear hl hok
  by_cases hbig : (200 : Int) < (n : Int)
  · go_enter Try.func4, Try.ntmps4
    go_wp2_with fail
    refine (plives w).mono ?_
    rintro e w1 ⟨rfl, hb1⟩
    go_wp2_with fail
    refine (plives w1).mono ?_
    rintro e w2 ⟨rfl, hb2⟩
    go_wp2
    go_ret
    exact ⟨rfl, below_tr hb1 hb2⟩
  · go_enter Try.func4, Try.ntmps4
    go_wp2_with fail
    refine (plives w).mono ?_
    rintro e w1 ⟨rfl, hb1⟩
    go_wp2_with fail
    refine (pow_new w1).mono ?_
    rintro e w2 ⟨g, rfl, hg, hp, hb2⟩
    have hgw : w.heap.size ≤ g := Nat.le_trans hb1.size hg
    have hb := below_tr hb1 hb2
    have HG := Lib.hid hg
    clear hb1 hb2 hg
    go_wp2_with fail
    go_loopw [4, 5, 6, 7, 25] (fun s4 s5 s6 s7 s25 wr => ∃ (k : Nat) (p : PowS) (on : Bool) (plan torn count : Int), k ≤ n ∧ 0 ≤ count ∧ count ≤ k ∧ -1 ≤ plan ∧ plan ≤ 9223372036854775807 ∧ s4 = .bool on ∧ s5 = .int .i64 plan ∧ s6 = .int .i64 torn ∧ s7 = .int .i64 count ∧ s25 = .int .i64 k ∧
        Pw wr g p ∧ Sim p on plan torn count ∧ Below w.heap.size w wr) (fun _ _ _ _ s25 _ => n - (intOf s25).toNat)
    case atStart => exact ⟨0, PowS.new, true, -1, 0, 0, Nat.zero_le _, by omega, by omega, by omega, by omega, rfl, rfl, rfl, rfl, rfl, hp, by simp [Sim, PowS.new], hb⟩
    case round =>
      obtain ⟨k, p, on, plan, torn, count, hk, hc1, hc2, hpl1, hpl2, rfl, rfl, rfl, rfl, rfl, hpw, hsim, hbr⟩ := hrel
      by_cases hlt : k < n
      · obtain ⟨a, ha⟩ : ∃ a, l[k]? = some a := ⟨l[k]'(by have := Hl.out; omega), List.getElem?_eq_getElem _⟩
        obtain ⟨f0, f1, f2⟩ := flat3 l k a ha
        obtain ⟨b, off, rfl, hbw, hc0⟩ := hr _ _ f0
        obtain ⟨b', off', e, _, hc1'⟩ := hr _ _ f1
        simp only [Option.some.injEq, Addr.mk.injEq, and_true] at e
        obtain ⟨rfl, rfl⟩ := e
        obtain ⟨b', off', e, _, hc2'⟩ := hr _ _ f2
        simp only [Option.some.injEq, Addr.mk.injEq, and_true] at e
        obtain ⟨rfl, rfl⟩ := e
        rw [← hbr.cell (p := ⟨b, _, none⟩) hbw] at hc0 hc1' hc2'
        clear f0 f1 f2
        rw [← Nat.add_assoc] at hc1' hc2'
        have hka := (Hok.out a (List.mem_of_getElem? ha))
        obtain ⟨kd, nn, tt⟩ := a
        simp only at hc0 hc1' hc2'
        obtain ⟨⟨hk0, hk1⟩, hnn, _⟩ := hka
        simp only at hk0 hk1 hnn
        have Hnn := Lib.hid hnn
        have hgr := hpw.lt
        have Hgr := Lib.hid hgr
        have hbo := Bk.new wr 36 #[.int .u8 kd, .int .i64 nn, .int .i64 tt]
        have hpw1 : Pw (wr.alloc (.cells #[.int .u8 kd, .int .i64 nn, .int .i64 tt] 36)) g p := hpw.frm ((Frm.refl wr []).alloc _) (by simp)
        have hne : wr.heap.size ∉ [g] := by simp; omega
        have hb1 := below_al hbr (.cells #[.int .u8 kd, .int .i64 nn, .int .i64 tt] 36)
        have Hcells : ∀ w', Frm (wr.alloc (.cells #[.int .u8 kd, .int .i64 nn, .int .i64 tt] 36)) w' [g] → Below w.heap.size w w' ∧
            w'.cell? ⟨wr.heap.size, 1, none⟩ = some (.int .i64 nn) ∧ w'.cell? ⟨wr.heap.size, 2, none⟩ = some (.int .i64 tt) := fun w' hf => by
          have h1 := hbo.frm hf hne
          exact ⟨hb1.trans (hf.below (by simpa using hgw) (by have := hbr.size; simp; omega)), h1.cell 1, h1.cell 2⟩
        have HC := Lib.hid Hcells
        clear hnn Hcells hgr
        rcases (show kd % 3 = 1 ∨ kd % 3 = 2 ∨ kd % 3 = 0 from by omega) with h3 | h3 | h3
        · have hq : (kd % 3 == 1) = true := beq_iff_eq.2 h3
          clear h3
          go_wp2_with fail
          refine (pow_plan _ g p nn tt hpw1 Hnn.out).mono ?_
          rintro e w3 ⟨rfl, hp3, hf3, _⟩
          obtain ⟨hb3, c1, c2⟩ := HC.out w3 hf3
          go_wp2_with fail
          go_region
          go_wp2_with fail
          have hs3 := hsim.planned nn tt
          refine (on_sim (w := w3.drew) hp3 hs3).mono ?_
          rintro e w4 ⟨rfl, rfl⟩
          go_wp2_with fail
          refine (count_sim (w := w3.drew) hp3 hs3).mono ?_
          rintro e w4 ⟨rfl, rfl⟩
          go_wp2
          go_roundw
          case rel => exact ⟨k + 1, _, on, max nn (-1), tt, count, by omega, by omega, by omega, by omega, by have := Hnn.out; omega, rfl, rfl, rfl, rfl, by go_num, hp3, hs3, hb3.drew⟩
          case measure => simp [intOf]; omega
        · have hq : (kd % 3 == 1) = false := beq_eq_false_iff_ne.2 (by omega)
          have hq2 : (kd % 3 == 2) = true := beq_iff_eq.2 h3
          clear h3
          go_wp2_with fail
          refine (pow_up _ g p hpw1).mono ?_
          rintro e w3 ⟨rfl, hp3, hf3, _⟩
          obtain ⟨hb3, c1, c2⟩ := HC.out w3 hf3
          have hs3 := hsim.up
          go_wp2_with fail
          refine (on_sim hp3 hs3).mono ?_
          rintro e w4 ⟨rfl, rfl⟩
          go_wp2_with fail
          refine (count_sim hp3 hs3).mono ?_
          rintro e w4 ⟨rfl, rfl⟩
          go_wp2
          go_roundw
          case rel => exact ⟨k + 1, _, true, -1, torn, count, by omega, by omega, by omega, by omega, by omega, rfl, rfl, rfl, rfl, by go_num, hp3, hs3, hb3⟩
          case measure => simp [intOf]; omega
        · have hq : (kd % 3 == 1) = false := beq_eq_false_iff_ne.2 (by omega)
          have hq2 : (kd % 3 == 2) = false := beq_eq_false_iff_ne.2 (by omega)
          clear h3
          go_wp2_with fail
          refine (pow_write _ g p nn hpw1).mono ?_
          rintro e w3 ⟨rfl, hp3, hf3, _⟩
          obtain ⟨hb3, c1, c2⟩ := HC.out w3 hf3
          obtain ⟨q1, q2, q3, q4⟩ := hsim.write nn (by omega)
          by_cases hn0 : nn < 0
          · obtain ⟨e1, e2⟩ := q1 hn0
            rw [e1]
            rw [e2] at hp3
            clear q1 q2 q3 q4 e1 e2
            go_wp2_with fail
            refine (on_sim hp3 hsim).mono ?_
            rintro e w4 ⟨rfl, rfl⟩
            go_wp2_with fail
            refine (count_sim hp3 hsim).mono ?_
            rintro e w4 ⟨rfl, rfl⟩
            go_wp2
            go_roundw
            case rel => exact ⟨k + 1, _, on, plan, torn, count, by omega, by omega, by omega, by omega, by omega, rfl, rfl, rfl, rfl, by go_num, hp3, hsim, hb3⟩
            case measure => simp [intOf]; omega
          · cases on with
            | false =>
              obtain ⟨e1, e2⟩ := q2 hn0 rfl
              rw [e1]
              rw [e2] at hp3
              clear q1 q2 q3 q4 e1 e2
              go_wp2_with fail
              refine (on_sim hp3 hsim).mono ?_
              rintro e w4 ⟨rfl, rfl⟩
              go_wp2_with fail
              refine (count_sim hp3 hsim).mono ?_
              rintro e w4 ⟨rfl, rfl⟩
              go_wp2
              go_roundw
              case rel => exact ⟨k + 1, _, false, plan, torn, count, by omega, by omega, by omega, by omega, by omega, rfl, rfl, rfl, rfl, by go_num, hp3, hsim, hb3⟩
              case measure => simp [intOf]; omega
            | true =>
              by_cases hp0 : plan = 0
              · obtain ⟨e1, hs3⟩ := q3 hn0 rfl hp0
                rw [e1]
                subst hp0
                clear q1 q2 q3 q4 e1
                go_wp2_with fail
                refine (on_sim hp3 hs3).mono ?_
                rintro e w4 ⟨rfl, rfl⟩
                go_wp2_with fail
                refine (count_sim hp3 hs3).mono ?_
                rintro e w4 ⟨rfl, rfl⟩
                go_wp2
                go_roundw
                case rel => exact ⟨k + 1, _, false, -1, torn, count + 1, by omega, by omega, by omega, by omega, by omega, rfl, rfl, rfl, rfl, by go_num, hp3, hs3, hb3⟩
                case measure => simp [intOf]; omega
              · obtain ⟨e1, hs3⟩ := q4 hn0 rfl hp0
                rw [e1]
                have hp0' : (plan == 0) = false := beq_eq_false_iff_ne.2 hp0
                clear q1 q2 q3 q4 e1 hp0
                go_wp2_with fail
                refine (on_sim hp3 hs3).mono ?_
                rintro e w4 ⟨rfl, rfl⟩
                go_wp2_with fail
                refine (count_sim hp3 hs3).mono ?_
                rintro e w4 ⟨rfl, rfl⟩
                go_wp2
                go_roundw
                case rel => exact ⟨k + 1, _, true, max (plan - 1) (-1), torn, count + 1, by omega, by omega, by omega, by omega, by omega, rfl, rfl, rfl, rfl, by go_num, hp3, hs3, hb3⟩
                case measure => simp [intOf]; omega
      · go_wp2
        go_ret
        exact ⟨rfl, hbr⟩

theorem list3 {cs : List Value} {a b c : Value} (h : cs.length = 3) (h0 : cs[0]? = some a) (h1 : cs[1]? = some b) (h2 : cs[2]? = some c) : cs = [a, b, c] := by
  match cs, h with
  | [x, y, z], _ => simp at h0 h1 h2; rw [h0, h1, h2]
theorem open_act {H : Type} {enc : TypeId × Value → H} {w : World} : ∀ (fuel : Nat) (cs : List Value) (x : DataW H × List MemPlace), DataW.trod enc Try.prog w 0 (fun _ => true) true fuel 36 cs = some x → ∃ a : ActS, cs = a.cells ∧ a.ok := by
  intro fuel cs x h
  obtain ⟨hl, hf⟩ := open_fields Try.underlying36 (by kernel_rfl) (by kernel_rfl) h
  obtain ⟨v0, m0, y0, e0, t0⟩ := hf 0 _ rfl
  obtain ⟨v1, m1, y1, e1, t1⟩ := hf 1 _ rfl
  obtain ⟨v2, m2, y2, e2, t2⟩ := hf 2 _ rfl
  obtain ⟨n0, q0, _, w0⟩ := DataW.trod_int Try.underlying5 t0
  obtain ⟨n1, q1, _, w1⟩ := DataW.trod_int Try.underlying3 t1
  obtain ⟨n2, q2, _, w2⟩ := DataW.trod_int Try.underlying3 t2
  simp only [List.cons.injEq, and_true] at q0 q1 q2
  subst q0 q1 q2
  have b0 := bounds_u8 w0
  have b1 := bounds_i64 w1
  have b2 := bounds_i64 w2
  refine ⟨⟨n0, n1, n2⟩, list3 hl e0 e1 e2, ?_⟩
  simp only [ActS.ok]
  omega
end Go.Proofs.Ytpcpkmpkpjohmaa
