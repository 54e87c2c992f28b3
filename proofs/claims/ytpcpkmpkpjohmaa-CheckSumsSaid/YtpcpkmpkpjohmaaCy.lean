/- CheckSums' walk. -/
import Derived.Test.YtpcpkmpkpjohmaaCx
import Derived.Test.YtpcpkmpkpjohmaaWf
import Derived.Test.YtpcpkmpkpjohmaaOr
import Derived.Deep.RegionHeld3
import Derived.Deep.RegionHeld
import Derived.Deep.RegionWith
import Derived.Deep.QuietTactic
import Derived.BigQuiet
namespace Go.Proofs.Ytpcpkmpkpjohmaa
open Go.RowKit Go.ChangeShapes Go.WideShapes Go.ChangeAt
attribute [local go_sem] max_int2 min_int2

theorem str_list (a : List UInt8) : (⟨a.toArray⟩ : ByteArray).toList = a := by simp
theorem str_ne {a b : List UInt8} (h : a ≠ b) : ((⟨a.toArray⟩ : ByteArray).toList == (⟨b.toArray⟩ : ByteArray).toList) = false := by
  rw [beq_eq_false_iff_ne, str_list, str_list]
  exact h
theorem open_seal (b : List UInt8) : openL (sealL b) = some b := by
  unfold openL
  have e : (sealL b).take ((sealL b).length - 4) = b := by
    rw [sealL_length, Nat.add_sub_cancel]
    unfold sealL
    rw [List.take_left']
    rfl
  rw [e, if_pos ⟨by rw [sealL_length]; omega, rfl⟩]
set_option maxHeartbeats 4000000 in
set_option maxRecDepth 100000 in
theorem csums_walk (A : Option Addr) (n c : Nat) (b : List UInt8) (hl : b.length = n) (hn : n ≤ c) (hm : c ≤ maxLen) (hA : A = none → n = 0 ∧ c = 0) (hz : c ≤ 140737488351232) (at_ : Int)
    (O : Option Addr) (m d : Nat) (o : List UInt8) (hlo : o.length = m) (hno : m ≤ d) (hmo : d ≤ maxLen) (hOA : O = none → m = 0 ∧ d = 0) (hzo : d ≤ 140737488351232) (w : World) (hr : Rd w w.heap.size A (vb b)) (hro : Rd w w.heap.size O (vb o)) :
    Calls Try.prog 8 #[.slice A n c, .int .i64 at_, .slice O m d] w fun e w' => e = .returned (.bool true) ∧ Below w.heap.size w w' := by
  unfold maxLen at hm hmo
  have Hl := Lib.hid hl
  have HA := Lib.hid hA
  have Hlo := Lib.hid hlo
  have HOA := Lib.hid hOA
  clear hl hA hlo hOA
  by_cases hbig : (20000 : Int) < (n : Int) + (m : Int)
  · go_enter Try.func8, Try.ntmps8
    go_wp2_with fail
    refine (clives w).mono ?_
    rintro e w1 ⟨rfl, hb1⟩
    go_wp2_with fail
    refine (clives w1).mono ?_
    rintro e w2 ⟨rfl, hb2⟩
    go_wp2
    go_ret
    exact ⟨rfl, below_tr hb1 hb2⟩
  obtain ⟨i8, hi8, hz8, hs8, hb8⟩ := elm_u8.2.1
  obtain ⟨i, hi, hiv⟩ := idx_of at_ ((n : Int) + 1) (by omega) (by omega)
  have Hiv := Lib.hid hiv
  clear hiv
  go_enter Try.func8, Try.ntmps8
  go_wp2_with fail
  refine (clives w).mono ?_
  rintro e w1 ⟨rfl, hb1⟩
  have hr1 := hr.below_ hb1
  go_wp2_with (first | (refine wpList_make_blk w1 rfl _ _ _ rfl _ _ 1 1 elm_u8 .i64 .i64 _ _ 0 (n + 9) rfl rfl rfl (by omega) (by omega) (by omega) (by omega) ?_) |
    (at_builtin; refine wpList_append_blk _ rfl (.tmp 37) (.tmp 38) _ rfl _ _ 1 1 elm_u8 w1.heap.size 0 (n + 9) (madeCells #[.int .u8 0] (n + 9)) rfl (Bk.new w1 _ _) _ A n c (vb b) rfl (by rw [vb_length]; have := Hl.out; omega) (hr1.alloc_ _) (vb_one _) (by omega) (by rw [vb_length, size_madeCells]; have := Hl.out; omega) ?_; intro w2 hB2 hF2 hz2))
  have hB : Bk w2 w1.heap.size 5 (vb b ++ List.replicate 9 (Value.int .u8 0)).toArray := by
    have e : ((madeCells #[.int .u8 0] (n + 9)).toList.take (0 * 1) ++ vb b ++ (madeCells #[.int .u8 0] (n + 9)).toList.drop (0 * 1 + (vb b).length)).toArray = (vb b ++ List.replicate 9 (Value.int .u8 0)).toArray := by
      rw [vb_length, Hl.out, toList_madeCells_one, List.drop_replicate]
      simp
    rw [← e]
    exact hB2
  have hb2 : Below w.heap.size w w2 := (below_al hb1 _).trans (hF2.below (by have := hb1.size; simpa using this) (by have := hb1.size; simp; omega))
  have hg1 : w.heap.size ≤ w1.heap.size := hb1.size
  clear hB2 hF2 hz2 hr1
  generalize w1.heap.size = g at *
  have hrg := Rd.of_bk_app hB
  refine (seal_any _ n (n + 9) b w2 Hl.out (by omega) (by unfold maxLen; omega) (by simp) hrg (by omega)).mono ?_
  rintro e w3 ⟨v, rfl, hown3, hb3⟩
  obtain ⟨A3, c3, rfl, hc3, hm3, hA3, hr3⟩ := own_shape hown3 (by unfold maxLen; omega)
  clear hown3
  have hls : (sealL b).length = n + 4 := by rw [sealL_length, Hl.out]
  have Hls := Lib.hid hls
  clear hls
  have hbw3 := below_tr hb2 hb3
  have hB3 := hB.below hb3 hB.lt
  clear hB hb2
  go_wp2_with fail
  refine (copen_any A3 (n + 4) c3 (sealL b) w3 Hls.out hc3 hm3 (fun h => (hA3 h).1) hr3 (by omega)).mono ?_
  rintro e w4 ⟨v4, rfl, _, hv4, hb4⟩
  have hown4 := hv4 b (open_seal b)
  rw [Hl.out] at hown4
  rw [open_seal]
  obtain ⟨A4, c4, rfl, hc4, hm4, _, hr4⟩ := own_shape hown4 (by unfold maxLen; omega)
  clear hown4 hv4
  have hbw4 := below_tr hbw3 hb4
  have hB4 := hB3.below hb4 hB3.lt
  have hr34 := hr3.below_ hb4
  clear hB3 hr3
  go_wp2_with fail
  refine (copen_any O m d o w4 Hlo.out hno (by unfold maxLen; omega) (fun h => (HOA.out h).1) (hro.below_ hbw4) (by omega)).mono ?_
  rintro e w5 ⟨v5, rfl, hv5n, hv5, hb5⟩
  have hbw5 := below_tr hbw4 hb5
  have hB5 := hB4.below hb5 hB4.lt
  have hr35 := hr34.below_ hb5
  have hr45 := hr4.below_ hb5
  clear hB4 hr34 hr4 hbw4 hbw3
  go_wp2_with fail
  rw [Hiv.out]
  have hor : Rd w5 w5.heap.size O (vb o) := hro.below_ hbw5
  have cvO : ∃ S : ByteArray, S = ⟨o.toArray⟩ ∧ ∀ W, Below w5.heap.size w5 W → (convert 22 9 (.slice O m d)).run Try.prog W = .ok (.string S) W := ⟨_, rfl, fun W hW =>
    run_string_rd (P := Try.prog) W 22 9 5 Try.underlying22 Try.underlying5 Try.underlying9 m d o Hlo.out (hor.below hW)⟩
  have cvS : ∃ S : ByteArray, S = ⟨(sealL (o.take (m - 4))).toArray⟩ ∧ ∀ W v B, W.ownsRow B 5 1 v (m - 4 + 4) (vb (sealL (o.take (m - 4)))) → ∃ A c, v = .slice A (m - 4 + 4) c ∧ (convert 22 9 (.slice A (m - 4 + 4) c)).run Try.prog W = .ok (.string S) W := ⟨_, rfl, fun W v B hW => by
    obtain ⟨A9, c9, rfl, _, _, _, hr9⟩ := own_shape hW (by unfold maxLen; omega)
    exact ⟨A9, c9, rfl, run_string_rd (P := Try.prog) W 22 9 5 Try.underlying22 Try.underlying5 Try.underlying9 _ c9 _ (by rw [sealL_length, List.length_take, Hlo.out]; omega) hr9⟩⟩
  obtain ⟨So, hSo, cvO⟩ := cvO
  obtain ⟨Ss, hSs, cvS⟩ := cvS
  have CvO := Lib.hid cvO
  have CvS := Lib.hid cvS
  have HSo := Lib.hid hSo
  have HSs := Lib.hid hSs
  have hcvo := cvO w5.drew (below_drN (Below.refl _ _) 1)
  clear cvO cvS hSo hSs
  obtain ⟨r, hrr⟩ : ∃ r, (openL o).isSome = r := ⟨_, rfl⟩
  have hfull : openL o = if 4 ≤ m ∧ sealL (o.take (m - 4)) = o then some (o.take (m - 4)) else none := by unfold openL; rw [Hlo.out]
  have Hrr := Lib.hid hrr
  have Hfull := Lib.hid hfull
  rw [hrr]
  clear hrr hfull
  go_cut [14] (fun s14 wc => s14 = .bool r ∧ Below w5.heap.size w5 wc)
  case first =>
    by_cases h4 : (4 : Int) ≤ (m : Int)
    · have d4 : decide ((4 : Int) ≤ (m : Int)) = true := decide_eq_true h4
      have hm4 : max ((m : Int) - 4) 0 = ((m - 4 : Nat) : Int) := by omega
      have hle : ((m - 4 : Nat) : Int) ≤ (d : Int) := by omega
      have hge : (0 : Int) ≤ ((m - 4 : Nat) : Int) := by omega
      have hsub : IntKind.i64.wrap ((m : Int) - 4) = (m : Int) - 4 := IntWalk.i64_in _ (by omega)
      have hmax : ∀ w : World, (Builtin.max_ #[3, 3] 3 #[.int .i64 ((m : Int) - 4), .int .i64 0]).run Try.prog w = .ok (.int .i64 ((m - 4 : Nat) : Int)) w := fun w => by rw [max_int2, hm4]; rfl
      have Hsl : Hid (∀ W, Rd W W.heap.size O (vb o) → Calls Try.prog 34 #[.slice O (m - 4) d] W fun e w' => ∃ v, e = .returned v ∧ w'.ownsRow W.heap.size 5 1 v (m - 4 + 4) (vb (sealL (o.take (m - 4)))) ∧ Below W.heap.size W w') :=
        Lib.hid fun W hW => rseal_any O (m - 4) d (o.take (m - 4)) W (by rw [List.length_take, Hlo.out]; omega) (by rw [vb_take]; exact hW.take _) (by omega)
      have hse : (Ss.toList == So.toList) = r := by
        rw [HSs.out, HSo.out, ← Hrr.out, Hfull.out]
        by_cases hs : sealL (o.take (m - 4)) = o
        · rw [if_pos ⟨by omega, hs⟩, hs, beq_self_eq_true]
          rfl
        · rw [if_neg (fun h => hs h.2), str_ne hs]
          rfl
      have hor' : Rd w5.drew w5.drew.heap.size O (vb o) := hor
      go_region_held (fun w' => (convert 22 9 (.slice O m d)).run Try.prog w' = .ok (.string So) w' ∧ Below w5.heap.size w5 w') (first | exact ⟨hcvo, below_drN (Below.refl _ _) 1⟩ | exact ⟨hcva, hba5⟩ | fail) (first | (go_at_call 34; refine (Hsl.out _ (by exact hor')).mono ?_; rintro e wa ⟨va, rfl, howna, hba⟩; have hba5 : Below w5.heap.size w5 wa := Below.trans (below_drN (Below.refl w5.heap.size w5) 1) hba; have hcva := CvO.out wa hba5; obtain ⟨Aa, ca, rfl, hcvs⟩ := CvS.out wa va _ howna; clear howna))
      all_goals
        go_wp2
        go_meet
        exact ⟨rfl, hba5⟩
    · have d4 : decide ((4 : Int) ≤ (m : Int)) = false := decide_eq_false h4
      have hr0 : r = false := by
        rw [← Hrr.out, Hfull.out, if_neg (fun h => h4 (by omega))]
        rfl
      subst hr0
      go_quiet (fail)
      go_wp2
      go_meet
      exact ⟨rfl, below_drN (Below.refl _ _) _⟩
  obtain ⟨rfl, hbc⟩ := hcut
  clear hcvo
  have hbw5' := hbw5
  have hi' : (i : Int) ≤ (n : Int) := by omega
  have hic : (i : Int) ≤ (c : Int) := by omega
  obtain ⟨Ak, hslk, hcutk, _⟩ := cut_lo elm_u8 A n c i (by omega) hn (by unfold maxLen; omega)
  have HOf : Hid (∀ W q, Below w5.heap.size w5 W → Rd W W.heap.size (some ⟨q, 0, none⟩) [.slice A i c, .slice none 0 0, .slice Ak (n - i) (c - i)] → Calls Try.prog 35 #[.slice (some ⟨q, 0, none⟩) 3 3] W fun e w' => e = .returned (.int .u32 (crc b : Int)) ∧ Below W.heap.size W w') := Lib.hid fun W q hW hq => by
    have hrc := hr.below_ (hbw5.trans (hW.mono hbw5.size))
    have hrk := hcutk W _ _ hrc (by rw [vb_length, Hl.out]; omega)
    rw [Nat.mul_one, ← vb_drop] at hrk
    have hri := hrc.take i
    rw [← vb_take] at hri
    have hflat : [(⟨A, c, b.take i⟩ : Tx), ⟨none, 0, []⟩, ⟨Ak, c - i, b.drop i⟩].flatMap Tx.l = b := by simp
    have hvt : vt [(⟨A, c, b.take i⟩ : Tx), ⟨none, 0, []⟩, ⟨Ak, c - i, b.drop i⟩] = [.slice A i c, .slice none 0 0, .slice Ak (n - i) (c - i)] := by
      have h1 : min i n = i := by omega
      simp [vt, Tx.val, Hl.out, h1]
    refine (cof_any _ 3 3 [(⟨A, c, b.take i⟩ : Tx), ⟨none, 0, []⟩, ⟨Ak, c - i, b.drop i⟩] _ rfl (by omega) (by rw [hvt]; exact hq) ?_).mono ?_
    · intro x hx
      simp only [List.mem_cons, List.not_mem_nil, or_false] at hx
      have := Hl.out
      rcases hx with rfl | rfl | rfl
      · exact ⟨hri, by simp only [List.length_take]; omega⟩
      · exact ⟨Rd.nil_ _ _ _, by simp⟩
      · exact ⟨hrk, by simp only [List.length_drop]; omega⟩
    · rintro e w6 ⟨rfl, hb6⟩
      rw [hflat]
      exact ⟨rfl, hb6⟩
  have HRo : Hid (∀ W, Below w5.heap.size w5 W → Calls Try.prog 36 #[.slice A n c] W fun e w' => e = .returned (.int .u32 (crc b : Int)) ∧ W = w') := Lib.hid fun W hW =>
    rof_any A n c b W Hl.out (hr.below_ (hbw5.trans (hW.mono hbw5.size))) (by omega)
  have hcvx : ∀ (W : World) (X : Option Addr) (k q : Nat) (l : List UInt8), l.length = k → Rd W W.heap.size X (vb l) → (convert 22 9 (.slice X k q)).run Try.prog W = .ok (.string ⟨l.toArray⟩) W := fun W X k q l hl hX =>
    run_string_rd (P := Try.prog) W 22 9 5 Try.underlying22 Try.underlying5 Try.underlying9 k q l hl hX
  obtain ⟨Sb, hSb⟩ : ∃ S : ByteArray, S = ⟨(sealL b).toArray⟩ := ⟨_, rfl⟩
  obtain ⟨Bb, hBb⟩ : ∃ S : ByteArray, S = ⟨b.toArray⟩ := ⟨_, rfl⟩
  have HSe : Hid (∀ W, Below w5.heap.size w5 W → Calls Try.prog 34 #[.slice A n c] W fun e w' => ∃ A' c', e = .returned (.slice A' (n + 4) c') ∧ (∀ x : Ext w', (convert 22 9 (.slice A' (n + 4) c')).run Try.prog x.1 = .ok (.string Sb) x.1) ∧ Below W.heap.size W w') := Lib.hid fun W hW =>
    (rseal_any A n c b W Hl.out (hr.below_ (hbw5.trans (hW.mono hbw5.size))) (by omega)).mono (by
      rintro e w' ⟨v, rfl, hown, hb'⟩
      obtain ⟨A9, c9, rfl, _, _, _, hr9⟩ := own_shape hown (by unfold maxLen; omega)
      exact ⟨A9, c9, rfl, fun x => by rw [hSb]; exact hcvx _ _ _ _ _ Hls.out (hr9.below_ x.2), hb'⟩)
  have hzz : Rd w5 w5.heap.size (some ⟨g, n, none⟩) (vb [0, 0, 0, 0]) := by
    have e : (vb b ++ List.replicate 9 (Value.int .u8 0)).toArray = (vb b ++ vb [0, 0, 0, 0] ++ List.replicate 5 (Value.int .u8 0)).toArray := by
      rw [List.append_assoc]
      rfl
    rw [e] at hB5
    have := Rd.of_bk_mid hB5
    rw [vb_length, Hl.out] at this
    exact this
  obtain ⟨A5, n5, c5, l5, rfl, hn5, hr5, h5t, h5f⟩ : ∃ A5 n5 c5 l5, v5 = .slice A5 n5 c5 ∧ l5.length = n5 ∧ Rd w5 w5.heap.size A5 (vb l5) ∧ (r = true → l5 = o.take (m - 4) ∧ 4 ≤ m) ∧ (r = false → n5 = 0) := by
    have hrr := Hrr.out
    have hfull := Hfull.out
    cases ho : openL o with
    | none =>
      obtain rfl := hv5n ho
      rw [ho] at hrr
      exact ⟨none, 0, 0, [], rfl, rfl, Rd.nil_ _ _ _, (fun h => by rw [← hrr] at h; cases h), fun _ => rfl⟩
    | some x =>
      have hown := hv5 x ho
      rw [ho] at hrr hfull
      split at hfull
      · rename_i hc
        obtain rfl : x = o.take (m - 4) := by injection hfull
        obtain ⟨A5, c5, rfl, _, _, _, hr5⟩ := own_shape hown (by unfold maxLen; rw [List.length_take]; omega)
        exact ⟨A5, _, c5, _, rfl, rfl, hr5, fun _ => ⟨rfl, hc.1⟩, (fun h => by rw [← hrr] at h; cases h)⟩
      · cases hfull
  have HS : Hid (∀ W, Below w5.heap.size w5 W → (convert 22 9 (.slice A3 (n + 4) c3)).run Try.prog W = .ok (.string Sb) W ∧ (convert 22 9 (.slice A4 n c4)).run Try.prog W = .ok (.string Bb) W ∧ (convert 22 9 (.slice A n c)).run Try.prog W = .ok (.string Bb) W ∧
      (convert 22 9 (.slice A5 n5 c5)).run Try.prog W = .ok (.string ⟨l5.toArray⟩) W ∧ (convert 22 9 (.slice O (m - 4) d)).run Try.prog W = .ok (.string ⟨(o.take (m - 4)).toArray⟩) W ∧ (convert 22 9 (.slice (some ⟨g, n, none⟩) 4 9)).run Try.prog W = .ok (.string ⟨#[0, 0, 0, 0]⟩) W ∧ Below w5.heap.size w5 W) := Lib.hid fun W hW =>
    ⟨by rw [hSb]; exact hcvx _ _ _ _ _ Hls.out (hr35.below_ hW), by rw [hBb]; exact hcvx _ _ _ _ _ Hl.out (hr45.below_ hW), by rw [hBb]; exact hcvx _ _ _ _ _ Hl.out (hr.below_ (hbw5.trans (hW.mono hbw5.size))),
      hcvx _ _ _ _ _ hn5 (hr5.below_ hW), hcvx _ _ _ _ _ (by rw [List.length_take, Hlo.out]; omega) (by rw [vb_take]; exact (hor.below_ hW).take _), hcvx _ _ _ _ [0, 0, 0, 0] rfl (hzz.below_ hW), hW⟩
  have hbd : Below w5.heap.size w5 wc.drew := below_drN hbc 1
  have hg4 : ((n : Int) + 4) ≤ ((n + 9 : Nat) : Int) := by omega
  clear hcvx hSb hBb hzz hr5 hr35 hr45 hor hB5 hcutk hrg
  generalize (crc b : Int) = N at *
  cases r with
  | false =>
    have hn50 := h5f rfl
    subst hn50
    clear h5t h5f
    have hw4 : IntKind.i64.wrap ((n : Int) + 4) = (n : Int) + 4 := IntWalk.i64_in _ (by omega)
    have hn4 : (0 : Int) ≤ (n : Int) + 4 := by omega
    have ht4 : ((n : Int) + 4).toNat = n + 4 := by omega
    have hc4' : (n : Int) + 4 ≤ (n : Int) + 9 := by omega
    have hn5 : (n : Int) ≤ (n : Int) + 4 := by omega
    go_wp2_with fail
    clear hg4 hv5n hv5 Hfull HSo HSs CvS CvO Hls HA Hlo HOA
    clear hb1 hb3 hb4 hb5 hm hmo hz hzo hm3 hm4 hA3 hr hro
    have f1 : ∀ u : Ext w5, (convert 22 9 (.slice A3 (n + 4) c3)).run Try.prog u.1 = .ok (.string Sb) u.1 := fun u => (HS.out u.1 u.2).1
    simp only [List.append_eq, List.cons_append, List.nil_append]
    refine wp_region_segs [.reads [0, 1, 3, 4, 8, 2, 5], .write 6, .write 7, .write 9, .reads [10, 11, 12, 14, 13], .write 15, .reads [16, 17, 18, 19, 20, 21, 22, 23, 25, 24, 26, 27, 28, 29, 30, 31, 32, 33, 34, 35, 36, 37, 39, 40, 38, 41, 42, 43, 44, 45, 46, 47, 48, 49, 50, 51, 52, 53, 54, 55, 56, 57, 58, 59, 63, 60, 64, 61, 62, 65, 66, 67, 68, 69]]
      (fun W => ∃ u : Ext w5, W = u.1) (by kernel_rfl) (by kernel_rfl) (by kernel_rfl) (by kernel_rfl) ⟨⟨_, hbd⟩, rfl⟩ ?_
    refine wpSegs_reads (by simp only [List.filterMap_cons, List.filterMap_nil, List.getElem?_toArray, List.getElem?_cons_succ, List.getElem?_cons_zero]; rfl) ?_
    intro K0 hK0
    refine (show wpQuiet _ _ _ _ (_ :: _ :: _ :: _ :: _ :: _ :: _ :: []) _ from ?_)
    repeat (go_big_quiet_step (fail))
    refine wpQuiet_nil ?_
    refine hK0 _ ?_
    clear hK0 K0
    refine wpSegs_write (by simp only [List.getElem?_toArray, List.getElem?_cons_succ, List.getElem?_cons_zero]; rfl) ?_
    rintro _ ⟨u, rfl⟩ K hK
    go_simp
    have hq := Rd.new u.1 #[.slice A i c, .slice none 0 0, .slice Ak (n - i) (c - i)] 22
    have hu := below_al u.2 (.cells #[.slice A i c, .slice none 0 0, .slice Ak (n - i) (c - i)] 22)
    generalize u.1.alloc (.cells #[.slice A i c, .slice none 0 0, .slice Ak (n - i) (c - i)] 22) = v1 at *
    generalize u.1.heap.size = q at *
    refine hK (fun W => ∃ x : Ext v1, W = x.1) _ _ (fun W ⟨x, hx⟩ => ⟨⟨W, by rw [hx]; exact below_tr hu x.2⟩, rfl⟩) ⟨⟨_, Below.refl _ _⟩, rfl⟩ ?_
    clear hK K
    refine wpSegs_write (by simp only [List.getElem?_toArray, List.getElem?_cons_succ, List.getElem?_cons_zero]; rfl) ?_
    rintro _ ⟨x, rfl⟩ K hK
    go_simp
    refine (HOf.out x.1 q (below_tr hu x.2) (hq.below_ x.2)).mono ?_
    rintro e wa ⟨rfl, hba⟩
    go_simp
    refine hK (fun W => ∃ y : Ext wa, W = y.1) _ _ (fun W ⟨y, hy⟩ => ⟨⟨W, by rw [hy]; exact below_tr (below_tr x.2 hba) y.2⟩, rfl⟩) ⟨⟨_, Below.refl _ _⟩, rfl⟩ ?_
    replace hba := below_tr (below_tr hu x.2) hba
    clear hK K hq hu
    refine wpSegs_write (by simp only [List.getElem?_toArray, List.getElem?_cons_succ, List.getElem?_cons_zero]; rfl) ?_
    rintro _ ⟨y, rfl⟩ K hK
    go_simp
    refine (HRo.out y.1 (below_tr hba y.2)).mono ?_
    rintro e _ ⟨rfl, rfl⟩
    go_simp
    refine hK (fun W => ∃ y : Ext wa, W = y.1) _ _ (fun W h => h) ⟨y, rfl⟩ ?_
    clear hK K
    have f1 : ∀ u : Ext wa, (convert 22 9 (.slice A3 (n + 4) c3)).run Try.prog u.1 = .ok (.string Sb) u.1 := fun u => (HS.out u.1 (below_tr hba u.2)).1
    refine wpSegs_reads (by simp only [List.filterMap_cons, List.filterMap_nil, List.getElem?_toArray, List.getElem?_cons_succ, List.getElem?_cons_zero]; rfl) ?_
    intro K0 hK0
    refine (show wpQuiet _ _ _ _ (_ :: _ :: _ :: _ :: _ :: []) _ from ?_)
    repeat (go_big_quiet_step (fail))
    refine wpQuiet_nil ?_
    refine hK0 _ ?_
    clear hK0 K0
    refine wpSegs_write (by simp only [List.getElem?_toArray, List.getElem?_cons_succ, List.getElem?_cons_zero]; rfl) ?_
    rintro _ ⟨z, rfl⟩ K hK
    go_simp
    refine (HSe.out z.1 (below_tr hba z.2)).mono ?_
    rintro e wb ⟨A8, c8, rfl, f2, hbb⟩
    go_simp
    refine hK (fun W => ∃ y : Ext wb, W = y.1) _ _ (fun W ⟨y, hy⟩ => ⟨⟨W, by rw [hy]; exact below_tr (below_tr z.2 hbb) y.2⟩, rfl⟩) ⟨⟨_, Below.refl _ _⟩, rfl⟩ ?_
    replace hbb := below_tr (below_tr hba z.2) hbb
    clear hK K f1
    have f3 : ∀ u : Ext wb, (convert 22 9 (.slice A4 n c4)).run Try.prog u.1 = .ok (.string Bb) u.1 := fun u => (HS.out u.1 (below_tr hbb u.2)).2.1
    have f4 : ∀ u : Ext wb, (convert 22 9 (.slice A n c)).run Try.prog u.1 = .ok (.string Bb) u.1 := fun u => (HS.out u.1 (below_tr hbb u.2)).2.2.1
    have f6 : ∀ u : Ext wb, (convert 22 9 (.slice (some ⟨g, n, none⟩) 4 9)).run Try.prog u.1 = .ok (.string ⟨#[0, 0, 0, 0]⟩) u.1 := fun u => (HS.out u.1 (below_tr hbb u.2)).2.2.2.2.2.1
    refine wpSegs_reads (by simp only [List.filterMap_cons, List.filterMap_nil, List.getElem?_toArray, List.getElem?_cons_succ, List.getElem?_cons_zero]; rfl) ?_
    intro K0 hK0
    refine (show wpQuiet _ _ _ _ (_ :: _ :: _ :: _ :: _ :: _ :: _ :: _ :: _ :: _ :: _ :: _ :: _ :: _ :: _ :: _ :: _ :: _ :: _ :: _ :: _ :: _ :: _ :: _ :: _ :: _ :: _ :: _ :: _ :: _ :: _ :: _ :: _ :: _ :: _ :: _ :: _ :: _ :: _ :: _ :: _ :: _ :: _ :: _ :: _ :: _ :: _ :: _ :: _ :: _ :: _ :: _ :: _ :: _ :: []) _ from ?_)
    repeat (go_big_quiet_step (fail))
    refine wpQuiet_nil ?_
    refine hK0 _ ?_
    clear hK0 K0
    refine wpSegs_nil ?_
    rintro _ ⟨z, rfl⟩
    go_wp2
    go_ret
    exact ⟨rfl, hbw5.trans ((below_tr hbb z.2).mono hbw5.size)⟩
  | true =>
    obtain ⟨rfl, h4⟩ := h5t rfl
    clear h5t h5f
    have hsm : IntKind.i64.wrap ((m : Int) - 4) = ((m - 4 : Nat) : Int) := by
      rw [show (m : Int) - 4 = ((m - 4 : Nat) : Int) by omega]
      exact IntWalk.i64_in _ (by omega)
    have hsm0 : (m : Int) - 4 = ((m - 4 : Nat) : Int) := by omega
    have hsmd : ((m - 4 : Nat) : Int) ≤ (d : Int) := by omega
    have hsmz : (0 : Int) ≤ ((m - 4 : Nat) : Int) := by omega
    have hw4 : IntKind.i64.wrap ((n : Int) + 4) = (n : Int) + 4 := IntWalk.i64_in _ (by omega)
    have hn4 : (0 : Int) ≤ (n : Int) + 4 := by omega
    have ht4 : ((n : Int) + 4).toNat = n + 4 := by omega
    have hc4' : (n : Int) + 4 ≤ (n : Int) + 9 := by omega
    have hn5 : (n : Int) ≤ (n : Int) + 4 := by omega
    go_wp2_with fail
    clear hg4 hv5n hv5 Hfull HSo HSs CvS CvO Hls HA Hlo HOA
    clear hb1 hb3 hb4 hb5 hm hmo hz hzo hm3 hm4 hA3 hr hro
    have f1 : ∀ u : Ext w5, (convert 22 9 (.slice A3 (n + 4) c3)).run Try.prog u.1 = .ok (.string Sb) u.1 := fun u => (HS.out u.1 u.2).1
    simp only [List.append_eq, List.cons_append, List.nil_append]
    refine wp_region_segs [.reads [0, 1, 3, 4, 8, 2, 5], .write 6, .write 7, .write 9, .reads [10, 11, 12, 14, 13], .write 15, .reads [16, 17, 18, 19, 20, 21, 22, 23, 25, 24, 26, 27, 28, 29, 30, 31, 32, 33, 34, 35, 36, 37, 39, 40, 38, 41, 42, 43, 44, 45, 46, 47, 48, 49, 50, 51, 52, 53, 54, 55, 56, 57, 58, 59, 63, 60, 64, 61, 62, 65, 66, 67, 68, 69]]
      (fun W => ∃ u : Ext w5, W = u.1) (by kernel_rfl) (by kernel_rfl) (by kernel_rfl) (by kernel_rfl) ⟨⟨_, hbd⟩, rfl⟩ ?_
    refine wpSegs_reads (by simp only [List.filterMap_cons, List.filterMap_nil, List.getElem?_toArray, List.getElem?_cons_succ, List.getElem?_cons_zero]; rfl) ?_
    intro K0 hK0
    refine (show wpQuiet _ _ _ _ (_ :: _ :: _ :: _ :: _ :: _ :: _ :: []) _ from ?_)
    repeat (go_big_quiet_step (fail))
    refine wpQuiet_nil ?_
    refine hK0 _ ?_
    clear hK0 K0
    refine wpSegs_write (by simp only [List.getElem?_toArray, List.getElem?_cons_succ, List.getElem?_cons_zero]; rfl) ?_
    rintro _ ⟨u, rfl⟩ K hK
    go_simp
    have hq := Rd.new u.1 #[.slice A i c, .slice none 0 0, .slice Ak (n - i) (c - i)] 22
    have hu := below_al u.2 (.cells #[.slice A i c, .slice none 0 0, .slice Ak (n - i) (c - i)] 22)
    generalize u.1.alloc (.cells #[.slice A i c, .slice none 0 0, .slice Ak (n - i) (c - i)] 22) = v1 at *
    generalize u.1.heap.size = q at *
    refine hK (fun W => ∃ x : Ext v1, W = x.1) _ _ (fun W ⟨x, hx⟩ => ⟨⟨W, by rw [hx]; exact below_tr hu x.2⟩, rfl⟩) ⟨⟨_, Below.refl _ _⟩, rfl⟩ ?_
    clear hK K
    refine wpSegs_write (by simp only [List.getElem?_toArray, List.getElem?_cons_succ, List.getElem?_cons_zero]; rfl) ?_
    rintro _ ⟨x, rfl⟩ K hK
    go_simp
    refine (HOf.out x.1 q (below_tr hu x.2) (hq.below_ x.2)).mono ?_
    rintro e wa ⟨rfl, hba⟩
    go_simp
    refine hK (fun W => ∃ y : Ext wa, W = y.1) _ _ (fun W ⟨y, hy⟩ => ⟨⟨W, by rw [hy]; exact below_tr (below_tr x.2 hba) y.2⟩, rfl⟩) ⟨⟨_, Below.refl _ _⟩, rfl⟩ ?_
    replace hba := below_tr (below_tr hu x.2) hba
    clear hK K hq hu
    refine wpSegs_write (by simp only [List.getElem?_toArray, List.getElem?_cons_succ, List.getElem?_cons_zero]; rfl) ?_
    rintro _ ⟨y, rfl⟩ K hK
    go_simp
    refine (HRo.out y.1 (below_tr hba y.2)).mono ?_
    rintro e _ ⟨rfl, rfl⟩
    go_simp
    refine hK (fun W => ∃ y : Ext wa, W = y.1) _ _ (fun W h => h) ⟨y, rfl⟩ ?_
    clear hK K
    have f1 : ∀ u : Ext wa, (convert 22 9 (.slice A3 (n + 4) c3)).run Try.prog u.1 = .ok (.string Sb) u.1 := fun u => (HS.out u.1 (below_tr hba u.2)).1
    refine wpSegs_reads (by simp only [List.filterMap_cons, List.filterMap_nil, List.getElem?_toArray, List.getElem?_cons_succ, List.getElem?_cons_zero]; rfl) ?_
    intro K0 hK0
    refine (show wpQuiet _ _ _ _ (_ :: _ :: _ :: _ :: _ :: []) _ from ?_)
    repeat (go_big_quiet_step (fail))
    refine wpQuiet_nil ?_
    refine hK0 _ ?_
    clear hK0 K0
    refine wpSegs_write (by simp only [List.getElem?_toArray, List.getElem?_cons_succ, List.getElem?_cons_zero]; rfl) ?_
    rintro _ ⟨z, rfl⟩ K hK
    go_simp
    refine (HSe.out z.1 (below_tr hba z.2)).mono ?_
    rintro e wb ⟨A8, c8, rfl, f2, hbb⟩
    go_simp
    refine hK (fun W => ∃ y : Ext wb, W = y.1) _ _ (fun W ⟨y, hy⟩ => ⟨⟨W, by rw [hy]; exact below_tr (below_tr z.2 hbb) y.2⟩, rfl⟩) ⟨⟨_, Below.refl _ _⟩, rfl⟩ ?_
    replace hbb := below_tr (below_tr hba z.2) hbb
    clear hK K f1
    have f3 : ∀ u : Ext wb, (convert 22 9 (.slice A4 n c4)).run Try.prog u.1 = .ok (.string Bb) u.1 := fun u => (HS.out u.1 (below_tr hbb u.2)).2.1
    have f4 : ∀ u : Ext wb, (convert 22 9 (.slice A n c)).run Try.prog u.1 = .ok (.string Bb) u.1 := fun u => (HS.out u.1 (below_tr hbb u.2)).2.2.1
    have f5 : ∀ u : Ext wb, (convert 22 9 (.slice A5 n5 c5)).run Try.prog u.1 = .ok (.string ⟨(o.take (m - 4)).toArray⟩) u.1 := fun u => (HS.out u.1 (below_tr hbb u.2)).2.2.2.1
    have f7 : ∀ u : Ext wb, (convert 22 9 (.slice O (m - 4) d)).run Try.prog u.1 = .ok (.string ⟨(o.take (m - 4)).toArray⟩) u.1 := fun u => (HS.out u.1 (below_tr hbb u.2)).2.2.2.2.1
    have f6 : ∀ u : Ext wb, (convert 22 9 (.slice (some ⟨g, n, none⟩) 4 9)).run Try.prog u.1 = .ok (.string ⟨#[0, 0, 0, 0]⟩) u.1 := fun u => (HS.out u.1 (below_tr hbb u.2)).2.2.2.2.2.1
    refine wpSegs_reads (by simp only [List.filterMap_cons, List.filterMap_nil, List.getElem?_toArray, List.getElem?_cons_succ, List.getElem?_cons_zero]; rfl) ?_
    intro K0 hK0
    refine (show wpQuiet _ _ _ _ (_ :: _ :: _ :: _ :: _ :: _ :: _ :: _ :: _ :: _ :: _ :: _ :: _ :: _ :: _ :: _ :: _ :: _ :: _ :: _ :: _ :: _ :: _ :: _ :: _ :: _ :: _ :: _ :: _ :: _ :: _ :: _ :: _ :: _ :: _ :: _ :: _ :: _ :: _ :: _ :: _ :: _ :: _ :: _ :: _ :: _ :: _ :: _ :: _ :: _ :: _ :: _ :: _ :: _ :: []) _ from ?_)
    repeat (go_big_quiet_step (fail))
    refine wpQuiet_nil ?_
    refine hK0 _ ?_
    clear hK0 K0
    refine wpSegs_nil ?_
    rintro _ ⟨z, rfl⟩
    go_wp2
    go_ret
    exact ⟨rfl, hbw5.trans ((below_tr hbb z.2).mono hbw5.size)⟩
theorem csums_row (A : Option Addr) (n c : Nat) (b : List UInt8) (hl : b.length = n) (hn : n ≤ c) (hm : c ≤ maxLen) (hA : A = none → n = 0 ∧ c = 0) (hz : c ≤ 140737488351232) (x1 : Int) (_ : (Lit.int .i64 x1).wf = true)
    (O : Option Addr) (m d : Nat) (o : List UInt8) (hlo : o.length = m) (hno : m ≤ d) (hmo : d ≤ maxLen) (hOA : O = none → m = 0 ∧ d = 0) (hzo : d ≤ 140737488351232) (w : World) (hr : Rd w w.heap.size A (vb b)) (hro : Rd w w.heap.size O (vb o)) :
    Calls Try.prog 8 #[.slice A n c, .int .i64 x1, .slice O m d] w fun e w' => e = .returned (.bool true) ∧ Below w.heap.size w w' :=
  csums_walk A n c b hl hn hm hA hz x1 O m d o hlo hno hmo hOA hzo w hr hro
end Go.Proofs.Ytpcpkmpkpjohmaa
