/- CheckFinds' walk. -/
import Derived.Test.YtpcpkmpkpjohmaaCw
import Derived.Test.YtpcpkmpkpjohmaaCq
import Derived.Test.YtpcpkmpkpjohmaaRo
import Derived.Deep.DeepCutAuto
import Derived.StillTailTactics
namespace Go.Proofs.Ytpcpkmpkpjohmaa
open Go.RowKit Go.ChangeShapes Go.WideShapes Go.ChangeAt

theorem idx_of (x m : Int) (h0 : 0 < m) (hm : m ≤ 4611686018427387904) : ∃ i : Nat, (i : Int) < m ∧ wrap64 ((IntKind.u64.wrap x).tmod m) = (i : Int) := by
  have hx : 0 ≤ IntKind.u64.wrap x := by rw [IntKind.wrap_u64]; exact Int.emod_nonneg _ (by omega)
  rw [Int.tmod_eq_emod_of_nonneg hx]
  have h1 := Int.emod_nonneg (IntKind.u64.wrap x) (show m ≠ 0 by omega)
  have h2 := Int.emod_lt_of_pos (IntKind.u64.wrap x) h0
  refine ⟨(IntKind.u64.wrap x % m).toNat, by omega, ?_⟩
  rw [Int.toNat_of_nonneg h1]
  exact IntWalk.wrap64_in _ ⟨by omega, by omega⟩
theorem leB_inj : ∀ (k a b : Nat), a < 256 ^ k → b < 256 ^ k → leB k a = leB k b → a = b
  | 0, a, b, ha, hb, _ => by simp at ha hb; omega
  | k + 1, a, b, ha, hb, h => by
    simp only [leB, List.cons.injEq] at h
    have h1 := leB_inj k (a / 256) (b / 256) (by rw [Nat.pow_succ] at ha; omega) (by rw [Nat.pow_succ] at hb; omega) h.2
    have h2 := congrArg UInt8.toNat h.1
    simp at h2
    omega
theorem open_other (cl : List UInt8) (N : Nat) (hN : N < 4294967296) (h : N ≠ crc cl) : openL (cl ++ leB 4 N) = none := by
  unfold openL
  rw [if_neg]
  rintro ⟨_, h2⟩
  have e : (cl ++ leB 4 N).take ((cl ++ leB 4 N).length - 4) = cl := by
    rw [List.length_append, leB_length, Nat.add_sub_cancel, List.take_left']
    rfl
  rw [e] at h2
  have h3 := List.append_cancel_left h2
  exact h (leB_inj 4 _ _ hN (crc_lt _) h3.symm)
theorem vb_set (l : List UInt8) (i : Nat) (x : UInt8) : vb (l.set i x) = (vb l).set i (.int .u8 (x.toNat : Int)) := by simp [vb, List.map_set]
theorem bit_of (t : Nat) (h : t < 8) : (UInt8.ofNat (2 ^ t)).toNat = 2 ^ t ∧ 2 ^ t < 256 := by
  have : 2 ^ t < 2 ^ 8 := Nat.pow_lt_pow_right (by omega) h
  refine ⟨?_, this⟩
  rw [UInt8.toNat_ofNat']
  exact Nat.mod_eq_of_lt this
theorem xor_mul (k a b : Nat) : (a ^^^ b) * 2 ^ k = a * 2 ^ k ^^^ b * 2 ^ k := by
  have := Nat.shiftLeft_xor_distrib (a := a) (b := b) (i := k)
  simpa [Nat.shiftLeft_eq] using this
theorem flip_step (cl : List UInt8) (V bits i q : Nat) (hj : (i + q) / 8 < cl.length) (hv : valN cl = V ^^^ bits % 2 ^ q * 2 ^ i) (hb : bits / 2 ^ q % 2 = 1) :
    valN (cl.set ((i + q) / 8) (cl[(i + q) / 8] ^^^ UInt8.ofNat (2 ^ ((i + q) % 8)))) = V ^^^ bits % 2 ^ (q + 1) * 2 ^ i := by
  rw [valN_set cl _ _ hj, hv, (bit_of _ (Nat.mod_lt _ (by omega))).1, bits_take bits q hb, xor_mul, ← Nat.xor_assoc]
  congr 1
  rw [show (256 : Nat) = 2 ^ 8 from rfl, ← Nat.pow_mul, ← Nat.pow_add, ← Nat.pow_add]
  congr 1
  omega
theorem flip_val (x : UInt8) (t : Nat) (h : t < 8) : Go.bits .xor .u8 (x.toNat : Int) (2 ^ t % 256) = ((x ^^^ UInt8.ofNat (2 ^ t)).toNat : Int) := by
  obtain ⟨h1, h2⟩ := bit_of t h
  have := u8_xor_nat x.toNat (2 ^ t) x.toNat_lt h2
  rw [UInt8.toNat_xor, h1, ← this]
  have e : ((2 ^ t : Nat) : Int) = 2 ^ t % 256 := by
    have : ((2 : Int) ^ t) = ((2 ^ t : Nat) : Int) := by simp
    rw [this]
    omega
  rw [e]
set_option maxHeartbeats 1000000 in
set_option maxRecDepth 100000 in
theorem cfinds_out (A : Option Addr) (n c : Nat) (at_ : Int) (bits : Nat) (w : World) (h : n < 4 ∨ 20000 < n ∨ bits = 0) :
    Calls Try.prog 9 #[.slice A n c, .int .i64 at_, .int .u32 (bits : Int)] w fun e w' => e = .returned (.bool true) ∧ Below w.heap.size w w' := by
  by_cases h1 : (n : Int) < 4
  · clear h
    go_enter Try.func9, Try.ntmps9
    go_wp2_with fail
    refine (clives w).mono ?_
    rintro e w1 ⟨rfl, hb1⟩
    go_wp2_with fail
    refine (clives w1).mono ?_
    rintro e w2 ⟨rfl, hb2⟩
    go_wp2
    go_ret
    exact ⟨rfl, below_tr hb1 hb2⟩
  by_cases h2 : (20000 : Int) < (n : Int)
  · clear h
    go_enter Try.func9, Try.ntmps9
    go_wp2_with fail
    refine (clives w).mono ?_
    rintro e w1 ⟨rfl, hb1⟩
    go_wp2_with fail
    refine (clives w1).mono ?_
    rintro e w2 ⟨rfl, hb2⟩
    go_wp2
    go_ret
    exact ⟨rfl, below_tr hb1 hb2⟩
  have h3 : bits = 0 := by omega
  subst h3
  clear h
  go_enter Try.func9, Try.ntmps9
  go_wp2_with fail
  refine (clives w).mono ?_
  rintro e w1 ⟨rfl, hb1⟩
  go_wp2_with fail
  refine (clives w1).mono ?_
  rintro e w2 ⟨rfl, hb2⟩
  go_wp2
  go_ret
  exact ⟨rfl, below_tr hb1 hb2⟩

set_option maxHeartbeats 4000000 in
set_option maxRecDepth 100000 in
theorem cfinds_walk (A : Option Addr) (n c : Nat) (b : List UInt8) (hl : b.length = n) (hn : n ≤ c) (hm : c ≤ maxLen) (hA : A = none → n = 0 ∧ c = 0) (at_ : Int) (bits : Nat) (hbits : bits < 4294967296) (w : World) (hr : Rd w w.heap.size A (vb b)) :
    Calls Try.prog 9 #[.slice A n c, .int .i64 at_, .int .u32 (bits : Int)] w fun e w' => e = .returned (.bool true) ∧ Below w.heap.size w w' := by
  by_cases hout : n < 4 ∨ 20000 < n ∨ bits = 0
  · exact cfinds_out A n c at_ bits w hout
  have h1 : ¬ (n : Int) < 4 := by omega
  have h2 : ¬ (20000 : Int) < (n : Int) := by omega
  have h3 : ((bits : Int) == 0) = false := beq_eq_false_iff_ne.2 (by omega)
  have h0 : bits ≠ 0 := by omega
  have H0 := Lib.hid h0
  have Hl := Lib.hid hl
  have HA := Lib.hid hA
  clear h0 hl hA hout
  go_enter Try.func9, Try.ntmps9
  go_wp2_with fail
  refine (clives w).mono ?_
  rintro e w1 ⟨rfl, hb1⟩
  have hr1 := hr.below_ hb1
  go_wp2_with (at_builtin; refine wpList_copy_bytes _ rfl (.tmp 29) (.tmp 30) _ rfl _ _ elm_u8 rfl A n c b rfl Hl.out hr1 (by omega) ?_; intro A1 c1 w2 hC)
  obtain ⟨i, hi, hiv⟩ := idx_of at_ (8 * (n : Int) - 31) (by omega) (by omega)
  rw [hiv]
  clear hiv
  obtain ⟨g, cap, hv, _, _⟩ := hC.own.form (by omega)
  obtain rfl : A1 = some ⟨g, 0, none⟩ := by injection hv
  clear hv
  have hown := hC.own
  have hbe := below_tr hb1 hC.below
  have hcm := hC.max
  have hcn := hC.cap
  have hb2 := hC.below
  clear hC
  go_loopw [41] (fun kv wr => ∃ (q : Nat) (cl : List UInt8), q ≤ 32 ∧ kv = .int .i64 q ∧ wr.ownsRow w1.heap.size 5 1 (.slice (some ⟨g, 0, none⟩) n c1) n (vb cl) ∧ Hid (cl.length = n) ∧ Hid (valN cl = valN b ^^^ (bits % 2 ^ q) * 2 ^ i) ∧ Below w.heap.size w wr) (fun kv _ => 32 - (intOf kv).toNat)
  case atStart => exact ⟨0, b, by omega, rfl, hown, Hl, Lib.hid (by simp [Nat.mod_one]), hbe⟩
  case round =>
    obtain ⟨q, cl, hq, rfl, hown, HL, HV, hbe⟩ := hrel
    by_cases hlt : q < 32
    · by_cases hbit : bits / 2 ^ q % 2 = 1
      · have hand : Go.bits .and .u32 ((bits : Int) / 2 ^ q) 1 = 1 := by
          have := u32_and1 (bits / 2 ^ q) (Nat.lt_of_le_of_lt (Nat.div_le_self _ _) hbits)
          have e : ((bits / 2 ^ q : Nat) : Int) = (bits : Int) / 2 ^ q := by simp
          rw [hbit, e] at this
          exact this
        have hj : (i + q) / 8 < n := by omega
        have hjl : (i + q) / 8 < cl.length := by rw [HL.out]; exact hj
        have hcell : wr.cell? ⟨g, (i + q) / 8, none⟩ = some (.int .u8 (cl[(i + q) / 8].toNat : Int)) := by
          rw [hown.cellAt ((i + q) / 8) (by omega), vb_get cl _ hjl]
        have hfree : wr.frozen? ⟨g, (i + q) / 8, none⟩ = false := hown.frozenAt _
        have hst := hown.stored ((i + q) / 8)
        have hfv := flip_val cl[(i + q) / 8] ((i + q) % 8) (Nat.mod_lt _ (by omega))
        have hfs := flip_step cl (valN b) bits i q hjl HV.out hbit
        have hset := vb_set cl ((i + q) / 8) (cl[(i + q) / 8] ^^^ UInt8.ofNat (2 ^ ((i + q) % 8)))
        generalize cl[(i + q) / 8] ^^^ UInt8.ofNat (2 ^ ((i + q) % 8)) = y at *
        have Hfs := Lib.hid hfs
        obtain ⟨hst1, hst2⟩ := hst (.int .u8 (y.toNat : Int))
        rw [← hset] at hst1
        generalize hx : cl[(i + q) / 8].toNat = x at *
        have hbe2 := hbe.grown hst2 hbe.size (fun k hk => by
          injection hk with hk
          subst hk
          have := (hown.lt _ rfl).1
          have := hb1.size
          omega)
        clear hfs hst hset hx hst2
        go_wp2_with fail
        go_region
        all_goals
          go_wp2_with fail
          go_roundw
          case rel => exact ⟨q + 1, cl.set ((i + q) / 8) y, by omega, by go_num, hst1, Lib.hid (by rw [List.length_set]; exact HL.out), Hfs, below_drN hbe2 1⟩
          case measure => simp [intOf]; omega
      · have hand : Go.bits .and .u32 ((bits : Int) / 2 ^ q) 1 = 0 := by
          have := u32_and1 (bits / 2 ^ q) (Nat.lt_of_le_of_lt (Nat.div_le_self _ _) hbits)
          have e : ((bits / 2 ^ q : Nat) : Int) = (bits : Int) / 2 ^ q := by simp
          rw [show bits / 2 ^ q % 2 = 0 by omega, e] at this
          exact this
        have hsk := bits_skip bits q (by omega)
        have HV2 : Hid (valN cl = valN b ^^^ bits % 2 ^ (q + 1) * 2 ^ i) := by
          rw [hsk]
          exact HV
        clear hsk
        go_wp2_with fail
        go_roundw
        case rel => exact ⟨q + 1, cl, by omega, by go_num, hown, HL, HV2, hbe⟩
        case measure => simp [intOf]; omega
    · obtain rfl : q = 32 := by omega
      have hV := HV.out
      rw [Nat.mod_eq_of_lt (show bits < 2 ^ 32 by omega)] at hV
      have hdiff := sum_diff b cl 4294967295 bits i (by rw [Hl.out, HL.out]) (by rw [Hl.out]; omega) H0.out hbits hV
      have hcd : crc b ≠ crc cl := by
        have h1 := sum_lt b
        have h2 := sum_lt cl
        unfold crc
        omega
      have Hcd := Lib.hid hcd
      clear hcd hdiff hV HV hlt hq
      have hr2 := hr.below_ hbe
      go_wp2_with fail
      refine (seal_any A n c b wr Hl.out hn hm (fun h => (HA.out h).1) hr2 (by omega)).mono ?_
      rintro e w3 ⟨v, rfl, hown3, hb3⟩
      obtain ⟨A3, c3, rfl, hc3, hm3, _, hr3⟩ := own_shape hown3 (by unfold maxLen; omega)
      have hdrop : (sealL b).drop n = leB 4 (crc b) := by
        unfold sealL
        rw [← Hl.out, List.drop_left']
        rfl
      obtain ⟨A4, hsl, hcut, _⟩ := cut_lo elm_u8 A3 (n + 4) c3 n (by omega) (by omega) hm3
      have hr4 := hcut w3 _ _ hr3 (by rw [vb_length, sealL_length, Hl.out]; omega)
      rw [Nat.mul_one, ← vb_drop, hdrop] at hr4
      have hown4 : w3.ownsRow w1.heap.size 5 1 (.slice (some ⟨g, 0, none⟩) n c1) n (vb cl) := own_keep hown hb3.block
      have hbe3 := below_tr hbe hb3
      have hs1 : w1.heap.size ≤ w3.heap.size := by have := hown4.lt g rfl; omega
      have hlb : (leB 4 (crc b)).length = 4 := leB_length 4 _
      rw [show n + 4 - n = 4 by omega] at hsl
      clear hcut hdrop hown3 hr3
      go_wp2_with (at_builtin; refine wpList_append_keep _ rfl (.tmp 65) (.tmp 70) _ rfl w1.heap.size _ _ 1 1 elm_u8 g n c1 (vb cl) rfl hown4 _ _ 4 _ (vb (leB 4 (crc b))) rfl (by omega) (by rw [vb_length, hlb]) hr4 (vb_one _) (by unfold maxLen; omega) (by omega) hs1 ?_; intro v5 w5 hA5)
      have hown5 := hA5.own
      rw [← vb_append] at hown5
      have hb5 := hbe3.trans (hA5.below.mono hb1.size)
      have hlen5 : (cl ++ leB 4 (crc b)).length = n + 4 := by rw [List.length_append, hlb, HL.out]
      have ho5 := open_other cl (crc b) (crc_lt b) Hcd.out
      obtain ⟨A5, c5, rfl, hc5, hm5, hA5n, hr5⟩ := own_shape hown5 (by unfold maxLen; omega)
      have hrc := Rd.of_own hA5.old
      have Hlen5 := Lib.hid hlen5
      have Ho5 := Lib.hid ho5
      clear hlen5 ho5 hA5 hown5 hown4 hown
      refine (copen_any A5 (n + 4) c5 (cl ++ leB 4 (crc b)) w5 Hlen5.out hc5 hm5 (fun h => (hA5n h).1) hr5 (by omega)).mono ?_
      rintro e w6 ⟨v6, rfl, hv6, _, hb6⟩
      rw [Ho5.out]
      have hbw := below_tr hb5 hb6
      have hrb6 := hr.below_ hbw
      have hrc6 := hrc.below_ hb6
      clear hv6
      go_wp2_with fail
      refine (cof_any _ 1 1 [⟨A, c, b⟩] _ rfl (by omega) (by simpa [vt, Tx.val, Hl.out] using Rd.new w6 #[.slice A n c] 22) ?_).mono ?_
      · intro x hx
        simp only [List.mem_singleton] at hx
        subst hx
        exact ⟨hrb6.alloc_ _, by have := Hl.out; simp only; omega⟩
      rintro e w7 ⟨rfl, hb7⟩
      have hbw7 := below_tr (below_al hbw _) hb7
      have hrc7 := (hrc6.alloc_ _).below_ hb7
      simp only [List.flatMap_cons, List.flatMap_nil, List.append_nil]
      go_wp2_with fail
      refine (cof_any _ 1 1 [⟨some ⟨g, 0, none⟩, c1, cl⟩] _ rfl (by omega) (by simpa [vt, Tx.val, HL.out] using Rd.new w7 #[.slice (some ⟨g, 0, none⟩) n c1] 22) ?_).mono ?_
      · intro x hx
        simp only [List.mem_singleton] at hx
        subst hx
        exact ⟨hrc7.alloc_ _, by have := HL.out; simp only; omega⟩
      rintro e w8 ⟨rfl, hb8⟩
      have hbw8 := below_tr (below_al hbw7 _) hb8
      simp only [List.flatMap_cons, List.flatMap_nil, List.append_nil]
      have hne : ((crc b : Int) != (crc cl : Int)) = true := by rw [bne_iff_ne]; have := Hcd.out; omega
      generalize (crc b : Int) = N1 at *
      generalize (crc cl : Int) = N2 at *
      go_wp2_with fail
      go_ret
      exact ⟨rfl, hbw8⟩
theorem cfinds_row (A : Option Addr) (n c : Nat) (b : List UInt8) (hl : b.length = n) (hn : n ≤ c) (hm : c ≤ maxLen) (hA : A = none → n = 0 ∧ c = 0) (x1 : Int) (_ : (Lit.int .i64 x1).wf = true) (x2 : Int) (h2 : (Lit.int .u32 x2).wf = true) (w : World) (hr : Rd w w.heap.size A (vb b)) :
    Calls Try.prog 9 #[.slice A n c, .int .i64 x1, .int .u32 x2] w fun e w' => e = .returned (.bool true) ∧ Below w.heap.size w w' := by
  have hb := bounds_u32 h2
  obtain ⟨N, rfl⟩ := Int.eq_ofNat_of_zero_le hb.1
  exact cfinds_walk A n c b hl hn hm hA x1 N (by omega) w hr
end Go.Proofs.Ytpcpkmpkpjohmaa
