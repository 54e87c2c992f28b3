/- VarintPuts' walk. -/
import Derived.Test.YtpcpkmpkpjohmaaVq
import Derived.Test.YtpcpkmpkpjohmaaRo
import Derived.Test.YtpcpkmpkpjohmaaWe
import Derived.Deep.RegionWith
import Derived.Deep.DeepCutAuto
import Derived.Laws.Concat
namespace Go.Proofs.Ytpcpkmpkpjohmaa
open Go.RowKit

theorem str_append (x y : List UInt8) : (⟨x.toArray⟩ : ByteArray) ++ ⟨y.toArray⟩ = ⟨(x ++ y).toArray⟩ := by
  apply ByteArray.ext
  simp [ByteArray.data_append]
theorem run_str_add {P : Program} (w : World) (x y : List UInt8) (h : x.length + y.length ≤ 1000000) :
    (Op.stringOp .add (⟨x.toArray⟩ : ByteArray) ⟨y.toArray⟩).run P w = .ok (.string ⟨(x ++ y).toArray⟩) w := by
  rw [run_string_add_sum w _ _ (by simp [ByteArray.size]; omega), str_append]

theorem early_exit {A L T : Option Addr} {n c m cl k ct : Nat} (w : World) (h : (200 : Int) < (n : Int) ∨ (¬ (200 : Int) < (n : Int) ∧ (60 : Int) < (m : Int)) ∨ (¬ (200 : Int) < (n : Int) ∧ ¬ (60 : Int) < (m : Int) ∧ (30 : Int) < (k : Int))) :
    Calls Try.prog 12 #[.slice A n c, .slice L m cl, .slice T k ct] w fun e w' => e = .returned (.bool true) ∧ Below w.heap.size w w' := by
  rcases h with h1 | ⟨h1, h2⟩ | ⟨h1, h2, h3⟩
  all_goals
    go_enter Try.func12, Try.ntmps12
    go_wp2_with fail
    refine (vlives w).mono ?_
    rintro e w1 ⟨rfl, hb1⟩
    go_wp2_with fail
    refine (vlives w1).mono ?_
    rintro e w2 ⟨rfl, hb2⟩
    go_wp2
    go_ret
    exact ⟨rfl, below_tr hb1 hb2⟩

set_option maxHeartbeats 4000000 in
set_option maxRecDepth 100000 in
theorem vputs_walk (A : Option Addr) (n c : Nat) (b : List UInt8) (hl : b.length = n) (_hn : n ≤ c) (_hm : c ≤ maxLen) (_hA : A = none → n = 0 ∧ c = 0)
    (L : Option Addr) (m cl : Nat) (l : List Nat) (hl2 : l.length = m) (hlt : ∀ x ∈ l, x < 18446744073709551616)
    (T : Option Addr) (k ct : Nat) (t : List Tx) (hl3 : t.length = k) (w : World) (hr : Rd w w.heap.size A (vb b)) (hrl : Rd w w.heap.size L (vu l)) (hrt : Rd w w.heap.size T (vt t)) (hok : ∀ x ∈ t, x.ok w) :
    Calls Try.prog 12 #[.slice A n c, .slice L m cl, .slice T k ct] w fun e w' => e = .returned (.bool true) ∧ Below w.heap.size w w' := by
  by_cases hearly : (200 : Int) < (n : Int) ∨ (¬ (200 : Int) < (n : Int) ∧ (60 : Int) < (m : Int)) ∨ (¬ (200 : Int) < (n : Int) ∧ ¬ (60 : Int) < (m : Int) ∧ (30 : Int) < (k : Int))
  · exact early_exit w hearly
  have g1 : ¬ (200 : Int) < (n : Int) := by omega
  have g2 : ¬ (60 : Int) < (m : Int) := by omega
  have g3 : ¬ (30 : Int) < (k : Int) := by omega
  have hel : (encs l).length ≤ 600 := by have := encs_length l hlt; omega
  have Hl := Lib.hid hl
  have Hl2 := Lib.hid hl2
  have Hl3 := Lib.hid hl3
  have Hlt := Lib.hid hlt
  have Hok := Lib.hid hok
  have Hel := Lib.hid hel
  clear hl hl2 hl3 hlt hok hearly hel
  obtain ⟨i8, hi8, hz8, hs8, hb8⟩ := elm_u8.2.1
  go_enter Try.func12, Try.ntmps12
  go_wp2_with fail
  refine (vlives w).mono ?_
  rintro e w1 ⟨rfl, hb1⟩
  have hr1 := hr.below_ hb1
  go_wp2_with (first | (refine wpList_make_own w1 rfl _ _ _ rfl w1.heap.size 5 i8 (.int .u8 0) 1 Try.underlying22 hi8 hz8 hs8 .i64 .i64 _ (n + 30) rfl rfl (by omega) (by rw [hb8]; omega) (by simp only [maxLen]; omega) (Nat.le_refl _) ?_; intro w2 hown2 hg2; have hb2 : Below w1.heap.size w1 w2 := (Below.refl _ _).grown hg2 (Nat.le_refl _) (fun k hk => by cases hk); have hr2 := hr1.below hb2) |
    (at_builtin; refine wpList_append_app _ rfl (.tmp 42) (.tmp 43) _ rfl w1.heap.size _ _ 1 1 elm_u8 _ 0 [] rfl (.inl hown2) _ _ n c (vb b) rfl (by rw [vb_length, Hl.out]; omega) hr2 (vb_one _) (by simp only [maxLen]; omega) (by omega) hb2.size ?_; intro v3 w3 hA3; have hown3 : w3.ownsRow w1.heap.size 5 1 v3 n (vb b) := (by simpa using hA3.own (.inr hown2)); obtain ⟨Ao, co, rfl, hnc, hcm, hAo, hro⟩ := own_shape hown3 (by simp only [maxLen]; omega)))
  have hb3 : Below w.heap.size w w3 := below_tr hb1 (hb2.trans hA3.below)
  have hr3 : Rd w3.drew w.heap.size A (vb b) := hr.below hb3.drew
  have hcv := run_string_rd (P := Try.prog) w3.drew 22 9 5 Try.underlying22 Try.underlying5 Try.underlying9 n c b Hl.out hr3
  have hown : w3.drew.ownsRow w.heap.size 5 1 (.slice Ao n co) n (vb b) := own_mono hown3 hb1.size
  have hbd : Below w.heap.size w w3.drew := hb3.drew
  clear hA3 hown3 hro hb2 hr2 hr1 hb1 hb3 hr3 hown2 hg2
  go_cut [8, 9] (fun s8 s9 wc => s8 = .string ⟨b.toArray⟩ ∧ s9 = .string ⟨b.toArray⟩ ∧ wc = w3.drew)
  case first =>
    go_region_with (fail)
    all_goals
      go_wp2
      go_meet
      exact ⟨rfl, rfl, rfl⟩
  obtain ⟨rfl, rfl, rfl⟩ := hcut
  clear hcv
  generalize w3.drew = w4 at *
  go_wp2_with fail
  go_loopw [8, 51] (fun s i wr => ∃ q : Nat, q ≤ m ∧ i = .int .i64 q ∧ s = .string ⟨(b ++ encs (l.take q)).toArray⟩ ∧ wr.ownsRow w.heap.size 5 1 (.slice Ao n co) n (vb b) ∧ Below w.heap.size w wr) (fun _ i _ => m - (intOf i).toNat)
  case atStart => exact ⟨0, Nat.zero_le _, rfl, by rw [List.take_zero, encs_nil, List.append_nil], hown, hbd⟩
  case round =>
    obtain ⟨q, hq, rfl, rfl, hownr, hbr⟩ := hrel
    by_cases hqm : q < m
    · obtain ⟨N, hN, hmem, htake, hle⟩ := encs_step b l q 2000 (by have := Hl2.out; omega) (by have := Hl.out; have := Hel.out; simp; omega)
      obtain ⟨bL, oL, rfl, hbL, hcell⟩ := hrl q _ (vu_get hN)
      rw [← hbr.cell (p := ⟨bL, oL + q, none⟩) hbL] at hcell
      have HN := Lib.hid (Hlt.out _ hmem)
      have Ht := Lib.hid htake
      have Hle := Lib.hid hle
      clear htake hle hN
      go_wp2_with fail
      refine (refnum_any 9 N wr (by have := HN.out; omega) HN.out).mono ?_
      rintro e w5 ⟨v, rfl, happ, hb5⟩
      obtain ⟨A5, c5, rfl, hc5, hrd5⟩ := happ.rd
      have hcv := run_string_rd (P := Try.prog) w5 22 9 5 Try.underlying22 Try.underlying5 Try.underlying9 _ c5 (enc N) rfl hrd5
      have hadd := run_str_add (P := Try.prog) w5 (b ++ encs (l.take q)) (enc N) (by have := Hle.out; rw [Ht.out] at this; simp only [List.length_append] at this ⊢; omega)
      rw [List.append_assoc, ← Ht.out] at hadd
      go_wp2_with fail
      go_roundw
      case rel => exact ⟨q + 1, by omega, by go_num, rfl, own_keep hownr hb5.block, below_tr hbr hb5⟩
      case measure => simp [intOf]; omega
    · obtain rfl : q = m := by omega
      have e1 : l.take q = l := List.take_of_length_le (by rw [Hl2.out]; omega)
      rw [e1]
      clear e1 hqm hq
      obtain ⟨wo, rfl⟩ : ∃ wo : World, wo = wr := ⟨_, rfl⟩
      go_wp2_with fail
      go_loopw [9, 63] (fun s i wr => ∃ j : Nat, j ≤ k ∧ i = .int .i64 j ∧ s = .string ⟨(b ++ texts ((t.map Tx.l).take j)).toArray⟩ ∧ Hid (∀ x ∈ (t.map Tx.l).take j, x.length ≤ 500) ∧ wr.ownsRow w.heap.size 5 1 (.slice Ao n co) n (vb b) ∧ Below w.heap.size w wr) (fun _ i _ => k - (intOf i).toNat)
      case atStart => exact ⟨0, Nat.zero_le _, rfl, by rw [List.take_zero, texts_nil, List.append_nil], by intro x hx; simp at hx, hownr, hbr⟩
      case round =>
        obtain ⟨j, hj, rfl, rfl, H500, hown2, hbr2⟩ := hrel
        by_cases hjk : j < k
        · obtain ⟨x, hx⟩ : ∃ x, t[j]? = some x := ⟨t[j]'(by have := Hl3.out; omega), List.getElem?_eq_getElem _⟩
          have hxm : (t.map Tx.l)[j]? = some x.l := by rw [List.getElem?_map, hx]; rfl
          obtain ⟨bT, oT, rfl, hbT, hcell⟩ := hrt j _ (vt_get hx)
          rw [← hbr2.cell (p := ⟨bT, oT + j, none⟩) hbT] at hcell
          have hxok : Rd w w.heap.size x.A (vb x.l) := Hok.out x (List.mem_of_getElem? hx)
          by_cases h500 : (500 : Int) < (x.l.length : Int)
          · clear hxm
            go_wp2_with fail
            go_ret
            exact ⟨rfl, hbr2⟩
          · have htk : (t.map Tx.l).take (j + 1) = (t.map Tx.l).take j ++ [x.l] := by
              obtain ⟨h1, h2⟩ := List.getElem?_eq_some_iff.1 hxm
              rw [List.take_succ_eq_append_getElem h1, h2]
            have htx : texts ((t.map Tx.l).take (j + 1)) = texts ((t.map Tx.l).take j) ++ text x.l := by rw [htk, texts_append]; simp [texts]
            have hall : ∀ y ∈ (t.map Tx.l).take (j + 1), y.length ≤ 500 := by
              intro y hy
              rw [htk] at hy
              rcases List.mem_append.1 hy with h | h
              · exact H500.out y h
              · simp at h
                subst h
                omega
            have hlen := texts_length _ hall
            rw [List.length_take] at hlen
            have Hall := Lib.hid hall
            have Htx := Lib.hid htx
            have Hlen := Lib.hid hlen
            have hrt1 := reftext_any x.A x.l.length x.c x.l wr rfl (by omega) (hxok.below_ hbr2)
            have Hrt := Lib.hid hrt1
            clear hall htx hlen hxm htk hrt1 hx hxok
            obtain ⟨xA, xc, xl⟩ := x
            simp only at hcell h500
            go_wp2_with fail
            refine (Hrt.out).mono ?_
            rintro e w5 ⟨v, rfl, happ, hb5⟩
            obtain ⟨A5, c5, rfl, hc5, hrd5⟩ := happ.rd
            have hcv := run_string_rd (P := Try.prog) w5 22 9 5 Try.underlying22 Try.underlying5 Try.underlying9 _ c5 (text xl) rfl hrd5
            have hadd := run_str_add (P := Try.prog) w5 (b ++ texts ((t.map Tx.l).take j)) (text xl) (by have := Hlen.out; have := Hl.out; rw [Htx.out] at *; simp only [List.length_append] at *; omega)
            rw [List.append_assoc, ← Htx.out] at hadd
            go_wp2_with fail
            go_roundw
            case rel => exact ⟨j + 1, by omega, by go_num, rfl, Hall, own_keep hown2 hb5.block, below_tr hbr2 hb5⟩
            case measure => simp [intOf]; omega
        · obtain rfl : j = k := by omega
          have e1 : (t.map Tx.l).take j = t.map Tx.l := List.take_of_length_le (by rw [List.length_map, Hl3.out]; omega)
          rw [e1] at H500
          rw [e1]
          clear e1 hjk hj hownr hbr
          obtain ⟨wp, rfl⟩ : ∃ wp : World, wp = wr := ⟨_, rfl⟩
          have htl : (texts (t.map Tx.l)).length ≤ 510 * 30 := by have := texts_length _ H500.out; have := Hl3.out; simp only [List.length_map] at *; omega
          have Htl := Lib.hid htl
          clear htl
          go_wp2_with fail
          refine (put_any Ao n co b L q cl l wp Hl.out hnc hcm (Rd.of_own hown2) (fun h => (hAo h).1) Hl2.out (hrl.below_ hbr2) Hlt.out (by have := Hel.out; have := Hl.out; rw [List.length_append]; omega) (by omega)).mono ?_
          rintro e w5 ⟨v5, rfl, happ5, hb5⟩
          have hb5w := below_tr hbr2 hb5
          have hown5 := own_keep hown2 hb5.block
          obtain ⟨A5, c5, rfl, _, _, _, hrd5⟩ := app_shape happ5 (by have := Hel.out; have := Hl.out; rw [List.length_append]; simp only [maxLen]; omega)
          clear happ5
          generalize hL5 : (b ++ encs l).length = L5
          have HL5 := Lib.hid hL5
          clear hL5
          go_wp2_with fail
          refine (tbytes_any Ao n co b T j ct t w5 Hl.out hnc hcm (Rd.of_own hown5) (fun h => (hAo h).1) Hl3.out (hrt.below_ hb5w) (fun x hx => (Hok.out x hx).below_ hb5w) (by have := Htl.out; have := Hl.out; rw [List.length_append]; omega) (by omega)).mono ?_
          rintro e w6 ⟨A6, c6, rfl, _, _, _, hrd6, _, hb6⟩
          generalize hL6 : (b ++ texts (t.map Tx.l)).length = L6
          have HL6 := Lib.hid hL6
          clear hL6
          have hb6w := below_tr hb5w hb6
          have hrd56 := hrd5.below_ hb6
          have hcv5 := run_string_rd (P := Try.prog) w6 22 9 5 Try.underlying22 Try.underlying5 Try.underlying9 L5 c5 (b ++ encs l) HL5.out hrd56
          have hcv6 := run_string_rd (P := Try.prog) w6 22 9 5 Try.underlying22 Try.underlying5 Try.underlying9 L6 c6 (b ++ texts (t.map Tx.l)) HL6.out hrd6
          clear hrd5 hrd6 hown5 hown2 hb5 hb6 hb5w hrd56 hbr2
          go_wp2_with fail
          refine (put_any none 0 0 [] L q cl l w6 rfl (by omega) (by simp [maxLen]) (Rd.nil_ _ _ _) (fun _ => rfl) Hl2.out (hrl.below_ hb6w) Hlt.out (by have := Hel.out; simp; omega) (by omega)).mono ?_
          rintro e w7 ⟨v7, rfl, happ7, hb7⟩
          have hb7w := below_tr hb6w hb7
          rw [List.nil_append] at happ7
          obtain ⟨A7, c7, rfl, hc7a, hc7b, hA7, hrd7⟩ := app_shape happ7 (by have := Hel.out; simp only [maxLen]; omega)
          generalize hL7 : (encs l).length = L7 at *
          have HL7 := Lib.hid hL7
          clear hcv5 hcv6 happ7 hL7
          go_wp2_with fail
          refine (tbytes_any A7 L7 c7 (encs l) T j ct t w7 HL7.out hc7a hc7b hrd7 hA7 Hl3.out (hrt.below_ hb7w) (fun x hx => (Hok.out x hx).below_ hb7w) (by have := Htl.out; have := Hel.out; rw [List.length_append, HL7.out]; omega) (by omega)).mono ?_
          rintro e w8 ⟨A8, c8, rfl, _, _, hA8, hrd8, _, hb8⟩
          have hb8w := below_tr hb7w hb8
          generalize hL8 : (encs l ++ texts (t.map Tx.l)).length = L8 at *
          have hL8' : L8 ≤ 16000 := by have := Htl.out; have := Hel.out; rw [List.length_append, HL7.out] at hL8; omega
          have HL8 := Lib.hid hL8
          clear hL8 hb7 hb8 hrd7 hA7 hc7a hc7b
          go_wp2_with fail
          refine (open_any A8 L8 c8 _ (encs l ++ texts (t.map Tx.l)) w8 HL8.out (by omega) hA8 hrd8).mono ?_
          rintro e w9 ⟨g, rfl, hg, hrr, hb9⟩
          have hb9w := below_tr hb8w hb9
          have Hg : Hid (w.heap.size ≤ g ∧ w8.heap.size ≤ g ∧ w.heap.size ≤ w8.heap.size) := ⟨Nat.le_trans hb8w.size hg, hg, hb8w.size⟩
          clear hrd8 hA8 hb9 hg hL8'
          go_wp2_with fail
          obtain ⟨wq, rfl⟩ : ∃ wq : World, wq = w9 := ⟨_, rfl⟩
          go_loopw [99] (fun i wr => ∃ p : Nat, p ≤ q ∧ i = .int .i64 p ∧ Rr wr 85 w8.heap.size g ⟨encs (l.drop p) ++ texts (t.map Tx.l), 0⟩ ∧ Below w.heap.size w wr) (fun i _ => q - (intOf i).toNat)
          case atStart => exact ⟨0, Nat.zero_le _, rfl, by rw [List.drop_zero]; exact hrr, hb9w⟩
          case round =>
            obtain ⟨p, hp, rfl, hrr2, hbr⟩ := hrel
            by_cases hpq : p < q
            · obtain ⟨N, hN⟩ : ∃ N, l[p]? = some N := ⟨l[p]'(by have := Hl2.out; omega), List.getElem?_eq_getElem _⟩
              obtain ⟨bL, oL, rfl, hbL, hcell⟩ := hrl p _ (vu_get hN)
              rw [← hbr.cell (p := ⟨bL, oL + p, none⟩) hbL] at hcell
              have hNlt := Hlt.out N (List.mem_of_getElem? hN)
              rw [encs_drop hN, List.append_assoc] at hrr2
              have hnum : Calls Try.prog 37 #[.pointer (some ⟨g, 0, none⟩), .int .u64 18446744073709551615] wr fun e w' => e = .returned (.int .u64 (N : Int)) ∧ Rr w' 85 w8.heap.size g ⟨encs (l.drop (p + 1)) ++ texts (t.map Tx.l), 0⟩ ∧ Frm wr w' [g] := by
                have h1 := number_any wr w8.heap.size g ⟨enc N ++ (encs (l.drop (p + 1)) ++ texts (t.map Tx.l)), 0⟩ 18446744073709551615 hrr2
                rw [number_enc N _ _ hNlt (by omega)] at h1
                exact h1.mono fun e w' ⟨h2, h3, h4, _⟩ => ⟨h2, h3, h4⟩
              have Hnum := Lib.hid hnum
              clear hnum hN hNlt
              go_wp2_with fail
              refine (Hnum.out).mono ?_
              rintro e w10 ⟨rfl, hrr3, hf3⟩
              go_wp2_with fail
              go_roundw
              case rel => exact ⟨p + 1, by omega, by go_num, hrr3, hbr.trans (hf3.below (by have := Hg.out; simp; omega) hbr.size)⟩
              case measure => simp [intOf]; omega
            · obtain rfl : p = q := by omega
              rw [List.drop_of_length_le (by rw [Hl2.out]; omega), encs_nil, List.nil_append] at hrr2
              clear hrr hb9w hpq hp
              obtain ⟨ws, rfl⟩ : ∃ ws : World, ws = wr := ⟨_, rfl⟩
              go_wp2_with fail
              go_loopw [110] (fun i wr => ∃ p : Nat, p ≤ j ∧ i = .int .i64 p ∧ Rr wr 85 w8.heap.size g ⟨texts ((t.map Tx.l).drop p), 0⟩ ∧ Below w.heap.size w wr) (fun i _ => j - (intOf i).toNat)
              case atStart => exact ⟨0, Nat.zero_le _, rfl, by rw [List.drop_zero]; exact hrr2, hbr⟩
              case round =>
                obtain ⟨p, hp, rfl, hrr4, hbr4⟩ := hrel
                by_cases hpj : p < j
                · obtain ⟨x, hx⟩ : ∃ x, t[p]? = some x := ⟨t[p]'(by have := Hl3.out; omega), List.getElem?_eq_getElem _⟩
                  have hxm : (t.map Tx.l)[p]? = some x.l := by rw [List.getElem?_map, hx]; rfl
                  obtain ⟨bT, oT, rfl, hbT, hcell⟩ := hrt p _ (vt_get hx)
                  rw [← hbr4.cell (p := ⟨bT, oT + p, none⟩) hbT] at hcell
                  have hxok : Rd w w.heap.size x.A (vb x.l) := Hok.out x (List.mem_of_getElem? hx)
                  have hx500 := H500.out x.l (List.mem_of_getElem? hxm)
                  rw [texts_drop hxm] at hrr4
                  have hby : ∀ W : World, Rr W 85 w8.heap.size g ⟨text x.l ++ texts ((t.map Tx.l).drop (p + 1)), 0⟩ → Calls Try.prog 38 #[.pointer (some ⟨g, 0, none⟩), .int .i64 500] W fun e w' => ∃ A, e = .returned (.slice A x.l.length x.l.length) ∧ Rd w' g A (vb x.l) ∧ Rr w' 85 w8.heap.size g ⟨texts ((t.map Tx.l).drop (p + 1)), 0⟩ ∧ Frm W w' [g] := fun W hW => by
                    have h1 := bytes_any W w8.heap.size g ⟨text x.l ++ texts ((t.map Tx.l).drop (p + 1)), 0⟩ ((500 : Nat) : Int) (by omega) hW
                    rw [bytes_text _ _ 500 hx500 (by omega)] at h1
                    exact h1.mono fun e w' ⟨A, h2, h3, _, h4, h5, _⟩ => ⟨A, h2, h3, h4, h5⟩
                  have hcx : ∀ W : World, Below w.heap.size w W → (convert 22 9 (.slice x.A x.l.length x.c)).run Try.prog W = .ok (.string ⟨x.l.toArray⟩) W := fun W hW =>
                    run_string_rd (P := Try.prog) W 22 9 5 Try.underlying22 Try.underlying5 Try.underlying9 _ x.c x.l rfl (hxok.below hW)
                  have Hby := Lib.hid hby
                  have Hcx := Lib.hid hcx
                  have hcx1 := hcx wr.drew hbr4.drew
                  clear hby hcx hx hxm hx500 hxok
                  generalize hlx : x.l.length = lx at *
                  have Hlx := Lib.hid hlx
                  clear hlx
                  go_wp2_with fail
                  go_region_with (first | (go_at_call 38; refine (Hby.out _ (by exact hrr4)).mono ?_; rintro e w10 ⟨A10, rfl, hd10, hrr5, hf5⟩; have hb10 : Below w.heap.size w w10 := hbr4.trans (Frm.below (w := wr) (F := [g]) ⟨hf5.1, hf5.2, hf5.3, hf5.4, hf5.5⟩ (by have := Hg.out; simp; omega) hbr4.size); have hcx2 := Hcx.out w10 hb10; have hcv := run_string_rd (P := Try.prog) w10 22 9 5 Try.underlying22 Try.underlying5 Try.underlying9 lx lx x.l Hlx.out hd10))
                  all_goals
                    go_wp2
                    go_roundw
                    case rel => exact ⟨p + 1, by omega, by go_num, hrr5, hb10⟩
                    case measure => simp [intOf]; omega
                · obtain rfl : p = j := by omega
                  rw [List.drop_of_length_le (by rw [List.length_map, Hl3.out]; omega), texts_nil] at hrr4
                  go_wp2_with fail
                  refine (end_any wr w8.heap.size g _ hrr4).mono ?_
                  rintro e w10 ⟨rfl, rfl⟩
                  rw [show (RdS.mk [] 0).fin = 0 from rfl]
                  go_wp2
                  go_ret
                  exact ⟨rfl, hbr4⟩
end Go.Proofs.Ytpcpkmpkpjohmaa
