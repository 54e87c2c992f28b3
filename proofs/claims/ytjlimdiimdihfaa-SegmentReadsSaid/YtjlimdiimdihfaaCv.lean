/- check.Seal, the document's sum and seal, walked. -/
import Derived.Test.YtjlimdiimdihfaaCu
import Derived.Test.YtjlimdiimdihfaaSl
namespace Go.Proofs.Ytjlimdiimdihfaa
open Go.RowKit

/-- A number's lowest bytes, the lowest first. -/
def leB : Nat → Nat → List UInt8
  | 0, _ => []
  | k + 1, n => UInt8.ofNat (n % 256) :: leB k (n / 256)
theorem leB_length : ∀ k n, (leB k n).length = k
  | 0, _ => rfl
  | k + 1, n => by simp [leB, leB_length k]
def sealL (b : List UInt8) : List UInt8 := b ++ leB 4 (crc b)
theorem sealL_length (b : List UInt8) : (sealL b).length = b.length + 4 := by simp [sealL, leB_length]

section
variable {P : Program} (w : World)
theorem wpList_append_byte_own {ops : Array Oper} {rest : List Oper} {o : Oper} {a : Act} {Q : Exit → Act → World → Prop} (hgd : o.guard = none) (s x : Operand) (t : TypeId)
    (ho : o.op = .call { callee := .builtin .append, args := #[s, x], argTypes := #[t, t] })
    (base : Nat) (e : TypeId) (z : Value) (he : Elm P t e z 1 1)
    (v : Value) (l : List UInt8) (hs : a.eval s = v) (happ : AppB w base e v l) (c : Int) (hx : a.eval x = .slice (some ⟨w.heap.size, 0, none⟩) 1 1)
    (hsz : l.length + 1 ≤ 140737488355328) (hbase : base ≤ w.heap.size) (hc : 0 ≤ c ∧ c < 256)
    (h : ∀ v' w', w'.ownsRow base e 1 v' (l.length + 1) (vb (l ++ [UInt8.ofNat c.toNat])) → Below base w w' → wpList P ops Q rest (a.put o.dst v') w') :
    wpList P ops Q (o :: rest) a (w.alloc (.cells #[.int .u8 c] e)) := by
  refine wpList_append_app _ hgd s x t ho base e z 1 1 he v l.length (vb l) hs (App.alloc happ _) (w.heap.size + 1) _ 1 1 [.int .u8 c] hx rfl (rd_one w _ _) (by intro u hu; simp at hu; subst hu; rfl) (by simp only [maxLen]; omega) (by omega) (by simp; omega) fun v' w' hA => ?_
  have hcv : (Value.int .u8 c) = .int .u8 ((UInt8.ofNat c.toNat).toNat : Int) := by
    have : (UInt8.ofNat c.toNat).toNat = c.toNat := by simp; omega
    rw [this, Int.toNat_of_nonneg hc.1]
  refine h v' w' ?_ (((Below.refl _ _).alloc hbase _).trans hA.below)
  have := hA.own (.inl (by omega))
  rw [hcv] at this
  rw [vb_append]
  exact this
end
theorem own_appB {w : World} {base : Nat} {e : TypeId} {v : Value} {l : List UInt8} {n : Nat} (h : w.ownsRow base e 1 v n (vb l)) (hl : l.length = n) : AppB w base e v l := by
  subst hl
  exact .inl h

set_option maxHeartbeats 1000000 in
set_option maxRecDepth 100000 in
theorem seal_any (A : Option Addr) (n c : Nat) (b : List UInt8) (w : World) (hl : b.length = n) (hn : n ≤ c) (hm : c ≤ maxLen) (hA : A = none → n = 0) (hr : Rd w w.heap.size A (vb b)) (hsz : n ≤ 35184372088832) :
    Calls Try.prog 30 #[.slice A n c] w fun e w' => ∃ v, e = .returned v ∧ w'.ownsRow w.heap.size 5 1 v (n + 4) (vb (sealL b)) ∧ Below w.heap.size w w' := by
  have Hl := Lib.hid hl
  clear hl
  go_enter Try.func30, Try.ntmps30
  go_wp2_with fail
  refine (cof_any _ 1 1 [⟨A, c, b⟩] _ rfl (by omega) ?_ ?_).mono ?_
  · exact (by
      have := Rd.new w #[.slice A n c] 22
      have e : vt [⟨A, c, b⟩] = [.slice A n c] := by simp [vt, Tx.val, Hl.out]
      rw [e]
      exact this)
  · intro x hx
    simp only [List.mem_singleton] at hx
    subst hx
    exact ⟨hr.alloc_ _, by have := Hl.out; simp only; omega⟩
  rintro e w1 ⟨rfl, hb1⟩
  have hbw := below_tr (below_al (Below.refl w.heap.size w) _) hb1
  simp only [List.flatMap_cons, List.flatMap_nil, List.append_nil]
  have hN : crc b < 4294967296 := crc_lt b
  have HE : Hid (b ++ leB 4 (crc b) = sealL b) := Lib.hid rfl
  generalize crc b = N at *
  go_wp2_with fail
  refine (clip_any _ _ _ _ hn hm).mono ?_
  rintro e w2 ⟨rfl, rfl⟩
  go_wp2_with fail
  go_loopw [0, 3, 9] (fun v nv i wr => ∃ (q : Nat) (acc : List UInt8) (N : Nat), q ≤ 4 ∧ i = .int .i64 q ∧ nv = .int .u32 (N : Int) ∧ N < 4294967296 ∧ AppB wr w.heap.size 5 v acc ∧ Hid (acc ++ leB (4 - q) N = sealL b) ∧ Hid (acc.length = n + q) ∧ (0 < q → wr.ownsRow w.heap.size 5 1 v (n + q) (vb acc)) ∧ Below w.heap.size w wr) (fun _ _ i _ => 4 - (intOf i).toNat)
  case atStart =>
    exact ⟨0, b, N, by omega, rfl, rfl, hN, AppB.clip Hl.out hA (hr.below_ hbw), HE, Hl, fun h => by omega, hbw⟩
  case round =>
    obtain ⟨q, acc, N, hq, rfl, rfl, hN, happ, HE, HL, hown, hbe⟩ := hrel
    by_cases hlt : q < 4
    · have hroom : acc.length + 1 ≤ 140737488355328 := by have := HL.out; omega
      have Hroom := Lib.hid hroom
      have Hown := Lib.hid hown
      clear hroom hown
      go_wp2_with (at_builtin; refine wpList_append_byte_own _ rfl (.tmp 11) (.tmp 14) _ rfl w.heap.size _ _ elm_u8 _ acc rfl happ _ rfl Hroom.out hbe.size (by omega) ?_; intro v1 w1 hown1 hbe1)
      go_roundw
      case rel =>
        refine ⟨q + 1, acc ++ [UInt8.ofNat (N % 256)], N / 256, by omega, by go_num, by go_num, by omega, ?_, ?_, ?_, ?_, hbe.trans hbe1⟩
        · rw [show ((N : Int) % 256).toNat = N % 256 by omega] at hown1
          exact own_appB hown1 (by simp)
        · have h := HE.out
          rw [show 4 - q = (4 - (q + 1)) + 1 by omega] at h
          show _ = _
          rw [← h, List.append_assoc]
          rfl
        · have := HL.out
          show _ = _
          simp only [List.length_append, List.length_cons, List.length_nil]
          omega
        · intro _
          rw [show ((N : Int) % 256).toNat = N % 256 by omega] at hown1
          have := HL.out
          rw [show n + (q + 1) = acc.length + 1 by omega]
          exact hown1
      case measure => simp [intOf]; omega
    · obtain rfl : q = 4 := by omega
      have he := HE.out
      have hw := hown (by omega)
      clear hown
      have HW := Lib.hid hw
      clear hw he
      go_wp2_with fail
      go_ret
      refine ⟨_, rfl, ?_, hbe⟩
      have := HW.out
      have he := HE.out
      rw [show leB (4 - 4) N = [] from rfl, List.append_nil] at he
      rw [← he]
      exact this

set_option maxHeartbeats 1000000 in
set_option maxRecDepth 100000 in
theorem rof_any (A : Option Addr) (n c : Nat) (b : List UInt8) (w : World) (hl : b.length = n) (hr : Rd w w.heap.size A (vb b)) (hsz : n ≤ 35184372088832) :
    Calls Try.prog 56 #[.slice A n c] w fun e w' => e = .returned (.int .u32 (crc b : Int)) ∧ w = w' := by
  have Hl := Lib.hid hl
  clear hl
  go_enter Try.func56, Try.ntmps56
  go_wp2_with fail
  go_loop [3, 4] (fun s i => ∃ k : Nat, k ≤ n ∧ i = .int .i64 k ∧ s = .int .u32 (sumN 4294967295 (b.take k) : Int)) (fun _ i => n - (intOf i).toNat)
  case atStart => exact ⟨0, Nat.zero_le _, rfl, rfl⟩
  case round =>
    obtain ⟨k, hk, rfl, rfl⟩ := hrel
    by_cases hlt : k < n
    · have hk' : k < b.length := by rw [Hl.out]; exact hlt
      obtain ⟨b2, off2, rfl, hb2, hc2⟩ := hr.byte hk'
      have hstep : sumN 4294967295 (b.take (k + 1)) = byteN (sumN 4294967295 (b.take k)) b[k].toNat := by
        rw [List.take_succ_eq_append_getElem hk', sumN_snoc]
      have hs1 : sumN 4294967295 (b.take k) < 4294967296 := sum_lt _
      have hcb : b[k].toNat < 256 := b[k].toNat_lt
      generalize sumN 4294967295 (b.take k) = s1 at *
      generalize b[k].toNat = cc at *
      rw [← docK_byte s1 cc hcb] at hstep
      have Hstep := Lib.hid hstep
      clear hstep
      go_wp2_with fail
      go_loop [3, 5, 6] (fun s cv j => ∃ q s' c' : Nat, q ≤ 8 ∧ j = .int .i64 q ∧ s = .int .u32 (s' : Int) ∧ cv = .int .u8 (c' : Int) ∧ s' < 4294967296 ∧ c' < 256 ∧ Hid (docK (8 - q) s' c' = sumN 4294967295 (b.take (k + 1)))) (fun _ _ j => 8 - (intOf j).toNat)
      case atStart => exact ⟨0, s1, cc, by omega, rfl, rfl, rfl, hs1, hcb, Lib.hid Hstep.out.symm⟩
      case round =>
        obtain ⟨q, s', c', hq, rfl, rfl, rfl, hs', hc', HD⟩ := hrel
        by_cases hlq : q < 8
        · have hd : docK (8 - (q + 1)) (docN s' c') (c' / 2) = sumN 4294967295 (b.take (k + 1)) := by
            rw [← HD.out, show 8 - q = (8 - (q + 1)) + 1 by omega]
            rfl
          have hdl : docN s' c' < 4294967296 := by
            unfold docN
            refine Nat.xor_lt_two_pow (n := 32) (by omega) ?_
            split
            · unfold CP; omega
            · omega
          have Hd := Lib.hid hd
          clear hd
          have hpoly := u32_poly s' hs'
          by_cases hne : s' % 2 = c' % 2
          · have h1 : ((s' : Int) % 2 != (c' : Int) % 2) = false := by rw [bne_eq_false_iff_eq]; omega
            have hv : docN s' c' = s' / 2 := by unfold docN; rw [if_neg (by omega), Nat.xor_zero]
            rw [hv] at Hd hdl
            clear hv hne
            go_wp2_with fail
            go_round
            case rel => exact ⟨q + 1, s' / 2, c' / 2, by omega, by go_num, by go_num, by go_num, hdl, by omega, Hd⟩
            case measure => simp [intOf]; omega
          · have h1 : ((s' : Int) % 2 != (c' : Int) % 2) = true := by rw [bne_iff_ne]; omega
            have hv : docN s' c' = s' / 2 ^^^ CP := by unfold docN; rw [if_pos hne]
            rw [← hv] at hpoly
            clear hv hne
            go_wp2_with fail
            go_round
            case rel => exact ⟨q + 1, docN s' c', c' / 2, by omega, by go_num, by go_num, by go_num, hdl, by omega, Hd⟩
            case measure => simp [intOf]; omega
        · obtain rfl : q = 8 := by omega
          have hd := HD.out
          rw [show docK (8 - 8) s' c' = s' from rfl] at hd
          rw [hd]
          clear hd
          go_wp2_with fail
          go_round
          case rel => exact ⟨k + 1, by omega, by go_num, rfl⟩
          case measure => simp [intOf]; omega
    · obtain rfl : k = n := by omega
      have hd : sumN 4294967295 (b.take k) = sumN 4294967295 b := by rw [List.take_of_length_le (by rw [Hl.out]; omega)]
      rw [hd]
      have hs0 := sum_lt b
      generalize hS : sumN 4294967295 b = s0 at *
      have HS := Lib.hid hS
      clear hd hS
      go_wp2_with fail
      go_ret
      refine ⟨?_, rfl⟩
      unfold crc
      rw [HS.out]
      have e : ((4294967295 - s0 : Nat) : Int) = 4294967295 - (s0 : Int) := by omega
      rw [e]
      rfl

set_option maxHeartbeats 1000000 in
set_option maxRecDepth 100000 in
theorem rseal_any (A : Option Addr) (n c : Nat) (b : List UInt8) (w : World) (hl : b.length = n) (hr : Rd w w.heap.size A (vb b)) (hsz : n ≤ 35184372088832) :
    Calls Try.prog 38 #[.slice A n c] w fun e w' => ∃ v, e = .returned v ∧ w'.ownsRow w.heap.size 5 1 v (n + 4) (vb (sealL b)) ∧ Below w.heap.size w w' := by
  have Hl := Lib.hid hl
  clear hl
  go_enter Try.func38, Try.ntmps38
  go_wp2_with fail
  refine (rof_any A n c b w Hl.out hr hsz).mono ?_
  rintro e w1 ⟨rfl, rfl⟩
  have hN : crc b < 4294967296 := crc_lt b
  have HE : Hid (b ++ leB 4 (crc b) = sealL b) := Lib.hid rfl
  generalize crc b = N at *
  go_wp2_with (at_builtin; refine wpList_copy_bytes _ rfl (.tmp 8) (.tmp 9) _ rfl _ _ elm_u8 rfl A n c b rfl Hl.out hr (by omega) ?_; intro A1 c1 w1 hC)
  have happ0 := own_appB hC.own Hl.out
  have hb0 := hC.below
  clear hC
  go_loopw [3, 4, 5] (fun nv v i wr => ∃ (q : Nat) (acc : List UInt8) (N : Nat), q ≤ 4 ∧ i = .int .i64 q ∧ nv = .int .u32 (N : Int) ∧ N < 4294967296 ∧ AppB wr w.heap.size 5 v acc ∧ Hid (acc ++ leB (4 - q) N = sealL b) ∧ Hid (acc.length = n + q) ∧ (0 < q → wr.ownsRow w.heap.size 5 1 v (n + q) (vb acc)) ∧ Below w.heap.size w wr) (fun _ _ i _ => 4 - (intOf i).toNat)
  case atStart =>
    exact ⟨0, b, N, by omega, rfl, rfl, hN, happ0, HE, Hl, fun h => by omega, hb0⟩
  case round =>
    obtain ⟨q, acc, N, hq, rfl, rfl, hN, happ, HE, HL, hown, hbe⟩ := hrel
    by_cases hlt : q < 4
    · have hroom : acc.length + 1 ≤ 140737488355328 := by have := HL.out; omega
      have Hroom := Lib.hid hroom
      have Hown := Lib.hid hown
      clear hroom hown
      go_wp2_with (at_builtin; refine wpList_append_byte_own _ rfl (.tmp 15) (.tmp 19) _ rfl w.heap.size _ _ elm_u8 _ acc rfl happ _ rfl Hroom.out hbe.size (by omega) ?_; intro v1 w1 hown1 hbe1)
      go_roundw
      case rel =>
        refine ⟨q + 1, acc ++ [UInt8.ofNat (N % 256)], N / 256, by omega, by go_num, by go_num, by omega, ?_, ?_, ?_, ?_, hbe.trans hbe1⟩
        · rw [show ((N : Int) % 256).toNat = N % 256 by omega] at hown1
          exact own_appB hown1 (by simp)
        · have h := HE.out
          rw [show 4 - q = (4 - (q + 1)) + 1 by omega] at h
          show _ = _
          rw [← h, List.append_assoc]
          rfl
        · have := HL.out
          show _ = _
          simp only [List.length_append, List.length_cons, List.length_nil]
          omega
        · intro _
          rw [show ((N : Int) % 256).toNat = N % 256 by omega] at hown1
          have := HL.out
          rw [show n + (q + 1) = acc.length + 1 by omega]
          exact hown1
      case measure => simp [intOf]; omega
    · obtain rfl : q = 4 := by omega
      have hw := hown (by omega)
      clear hown
      have HW := Lib.hid hw
      clear hw
      go_wp2_with fail
      go_ret
      refine ⟨_, rfl, ?_, hbe⟩
      have := HW.out
      have he := HE.out
      rw [show leB (4 - 4) N = [] from rfl, List.append_nil] at he
      rw [← he]
      exact this

/-- What slices.Equal says of two rows of bytes. -/
def EqB (a b : List UInt8) (w : World) (e : Ending) (w' : World) : Prop := ∃ r : Bool, e = .returned (.bool r) ∧ (r = true ↔ a = b) ∧ Below w.heap.size w w'
set_option maxHeartbeats 1000000 in
set_option maxRecDepth 100000 in
theorem equal_any (A : Option Addr) (n c : Nat) (a : List UInt8) (B : Option Addr) (m d : Nat) (b : List UInt8) (w : World) (hl : a.length = n) (hr : Rd w w.heap.size A (vb a)) (hl2 : b.length = m) (hr2 : Rd w w.heap.size B (vb b))
    (hn : n ≤ 70368744177664) (hm : m ≤ 70368744177664) :
    Calls Try.prog 49 #[.slice A n c, .slice B m d] w (EqB a b w) := by
  have Hl := Lib.hid hl
  have Hl2 := Lib.hid hl2
  clear hl hl2
  by_cases hnm : n = m
  · subst hnm
    go_enter Try.func49, Try.ntmps49
    go_wp2_with fail
    go_loopw [13] (fun i wr => ∃ q : Nat, q ≤ n ∧ i = .int .i64 q ∧ Hid (a.take q = b.take q) ∧ Below w.heap.size w wr) (fun i _ => n - (intOf i).toNat)
    case atStart => exact ⟨0, Nat.zero_le _, rfl, Lib.hid (by rw [List.take_zero, List.take_zero]), Below.refl _ _⟩
    case round =>
      obtain ⟨q, hq, rfl, HE, hbe⟩ := hrel
      by_cases hlt : q < n
      · have hqa : q < a.length := by rw [Hl.out]; exact hlt
        have hqb : q < b.length := by rw [Hl2.out]; exact hlt
        obtain ⟨b1, o1, rfl, hb1, hc1⟩ := (hr.below hbe).byte hqa
        obtain ⟨b2, o2, rfl, hb2, hc2⟩ := (hr2.below hbe).byte hqb
        by_cases hxy : a[q] = b[q]
        · have htk : a.take (q + 1) = b.take (q + 1) := by
            rw [List.take_succ_eq_append_getElem hqa, List.take_succ_eq_append_getElem hqb, HE.out, hxy]
          have Ht := Lib.hid htk
          rw [← hxy] at hc2
          generalize (a[q].toNat : Int) = x at *
          clear htk hxy
          go_wp2_with fail
          go_region
          all_goals
            go_wp2_with fail
            go_roundw
            case rel => exact ⟨q + 1, by omega, by go_num, Ht, below_drN hbe 1⟩
            case measure => simp [intOf]; omega
        · have hne : ((a[q].toNat : Int) != (b[q].toNat : Int)) = true := by
            rw [bne_iff_ne]
            intro h
            exact hxy (UInt8.toNat_inj.1 (by omega))
          have hab : a ≠ b := by rintro rfl; exact hxy rfl
          have Hab := Lib.hid hab
          generalize (a[q].toNat : Int) = x at *
          generalize (b[q].toNat : Int) = y at *
          clear hab hxy
          go_wp2_with fail
          go_region
          all_goals
            go_wp2_with fail
            go_ret
            exact ⟨_, rfl, ⟨(fun h => by cases h), (fun h => absurd h Hab.out)⟩, below_drN hbe 1⟩
      · obtain rfl : q = n := by omega
        go_wp2_with fail
        go_ret
        refine ⟨_, rfl, ?_, hbe⟩
        have h := HE.out
        rw [List.take_of_length_le (by rw [Hl.out]; omega), List.take_of_length_le (by rw [Hl2.out]; omega)] at h
        simp [h]
  · have hne : ((n : Int) != (m : Int)) = true := by rw [bne_iff_ne]; omega
    go_enter Try.func49, Try.ntmps49
    go_wp2_with fail
    go_ret
    refine ⟨_, rfl, ?_, Below.refl _ _⟩
    have h1 := Hl.out
    have h2 := Hl2.out
    constructor
    · intro h; cases h
    · rintro rfl; omega
end Go.Proofs.Ytjlimdiimdihfaa
