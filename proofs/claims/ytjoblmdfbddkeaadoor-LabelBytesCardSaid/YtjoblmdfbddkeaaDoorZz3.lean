/- check.Of, walked. -/
import Derived.Test.YtjoblmdfbddkeaaDoorZz2
import Derived.Deep.RegionHeld3
import Derived.Test.YtjoblmdfbddkeaaDoorZz1
namespace Go.Proofs.YtjoblmdfbddkeaaDoor
open Go.RowKit

theorem u32_and15 (x : Nat) (h : x < 4294967296) : bits .and .u32 (x : Int) 15 = ((x % 16 : Nat) : Int) := by
  have := u32_and_nat x 15 h (by omega)
  rw [show x &&& 15 = x % 16 from Nat.and_two_pow_sub_one_eq_mod x 4] at this
  exact this
/-- The program's sum of bytes. -/
def crc (l : List UInt8) : Nat := 4294967295 - sumN 4294967295 l
theorem crc_lt (l : List UInt8) : crc l < 4294967296 := by unfold crc; omega
theorem sum_lt (l : List UInt8) : sumN 4294967295 l < 4294967296 := sumN_lt l _ (by omega)

theorem tab_lit : ∃ z0 z1 z2 z3 z4 z5 z6 z7 z8 z9 z10 z11 z12 z13 z14 z15 : Nat, tabV 16 = #[.int .u32 (z0 : Int), .int .u32 (z1 : Int), .int .u32 (z2 : Int), .int .u32 (z3 : Int), .int .u32 (z4 : Int), .int .u32 (z5 : Int), .int .u32 (z6 : Int), .int .u32 (z7 : Int), .int .u32 (z8 : Int), .int .u32 (z9 : Int), .int .u32 (z10 : Int), .int .u32 (z11 : Int), .int .u32 (z12 : Int), .int .u32 (z13 : Int), .int .u32 (z14 : Int), .int .u32 (z15 : Int)] := ⟨_, _, _, _, _, _, _, _, _, _, _, _, _, _, _, _, tab_16 (zK 4)⟩
theorem xor_full (s : Nat) (h : s < 2 ^ 32) : 4294967295 ^^^ s = 4294967295 - s := by
  apply Nat.eq_of_testBit_eq
  intro i
  have e := Nat.testBit_two_pow_sub_succ h i
  have e1 : 2 ^ 32 - (s + 1) = 4294967295 - s := by omega
  rw [e1] at e
  have e2 := Nat.testBit_two_pow_sub_one 32 i
  rw [e, Nat.testBit_xor, show (4294967295 : Nat) = 2 ^ 32 - 1 from rfl, e2]
  by_cases hi : i < 32
  · simp [hi]
  · have : s.testBit i = false := Nat.testBit_lt_two_pow (Nat.lt_of_lt_of_le h (Nat.pow_le_pow_right (by omega) (by omega)))
    simp [hi, this]
theorem not_u32 (s : Nat) (h : s < 4294967296) : bits .xor .u32 IntKind.u32.max (s : Int) = ((4294967295 - s : Nat) : Int) := by
  have := u32_xor_nat 4294967295 s (by omega) h
  rw [xor_full s h] at this
  exact this
set_option maxHeartbeats 2000000 in
set_option maxRecDepth 100000 in
theorem cof_any (A : Option Addr) (n c : Nat) (l : List Tx) (w : World) (hl : l.length = n) (hn : n ≤ 1000000) (hr : Rd w w.heap.size A (vt l)) (hok : ∀ x ∈ l, x.ok w ∧ x.l.length ≤ 70368744177664) :
    Calls Tryd.prog 36 #[.slice A n c] w fun e w' => e = .returned (.int .u32 (crc (l.flatMap Tx.l) : Int)) ∧ Below w.heap.size w w' := by
  have Hl := Lib.hid hl
  have Hok := Lib.hid hok
  clear hl hok
  go_enter Tryd.func36, Tryd.ntmps36
  go_wp2_with fail
  refine (table_any w).mono ?_
  rintro e w1 ⟨rfl, hb1⟩
  obtain ⟨z0, z1, z2, z3, z4, z5, z6, z7, z8, z9, z10, z11, z12, z13, z14, z15, ht⟩ := tab_lit
  have Ht := Lib.hid ht
  rw [ht]
  clear ht
  have hB : Bk (w1.alloc (.cells #[.int .u32 (z0 : Int), .int .u32 (z1 : Int), .int .u32 (z2 : Int), .int .u32 (z3 : Int), .int .u32 (z4 : Int), .int .u32 (z5 : Int), .int .u32 (z6 : Int), .int .u32 (z7 : Int), .int .u32 (z8 : Int), .int .u32 (z9 : Int), .int .u32 (z10 : Int), .int .u32 (z11 : Int), .int .u32 (z12 : Int), .int .u32 (z13 : Int), .int .u32 (z14 : Int), .int .u32 (z15 : Int)] 77)) w1.heap.size 77 (tabV 16) := by
    rw [Ht.out]
    exact Bk.new _ _ _
  have hbe := hb1.alloc hb1.size (.cells #[.int .u32 (z0 : Int), .int .u32 (z1 : Int), .int .u32 (z2 : Int), .int .u32 (z3 : Int), .int .u32 (z4 : Int), .int .u32 (z5 : Int), .int .u32 (z6 : Int), .int .u32 (z7 : Int), .int .u32 (z8 : Int), .int .u32 (z9 : Int), .int .u32 (z10 : Int), .int .u32 (z11 : Int), .int .u32 (z12 : Int), .int .u32 (z13 : Int), .int .u32 (z14 : Int), .int .u32 (z15 : Int)] 77)
  go_wp2_with fail
  have hrW : Rd (w1.alloc (.cells #[.int .u32 (z0 : Int), .int .u32 (z1 : Int), .int .u32 (z2 : Int), .int .u32 (z3 : Int), .int .u32 (z4 : Int), .int .u32 (z5 : Int), .int .u32 (z6 : Int), .int .u32 (z7 : Int), .int .u32 (z8 : Int), .int .u32 (z9 : Int), .int .u32 (z10 : Int), .int .u32 (z11 : Int), .int .u32 (z12 : Int), .int .u32 (z13 : Int), .int .u32 (z14 : Int), .int .u32 (z15 : Int)] 77)) w.heap.size A (vt l) := hr.below hbe
  have hokW : ∀ x ∈ l, Rd (w1.alloc (.cells #[.int .u32 (z0 : Int), .int .u32 (z1 : Int), .int .u32 (z2 : Int), .int .u32 (z3 : Int), .int .u32 (z4 : Int), .int .u32 (z5 : Int), .int .u32 (z6 : Int), .int .u32 (z7 : Int), .int .u32 (z8 : Int), .int .u32 (z9 : Int), .int .u32 (z10 : Int), .int .u32 (z11 : Int), .int .u32 (z12 : Int), .int .u32 (z13 : Int), .int .u32 (z14 : Int), .int .u32 (z15 : Int)] 77)) w.heap.size x.A (vb x.l) ∧ x.l.length ≤ 70368744177664 := fun x hx => ⟨(Hok.out x hx).1.below hbe, (Hok.out x hx).2⟩
  have HokW := Lib.hid hokW
  clear hokW hr hb1
  generalize w1.alloc (.cells #[.int .u32 (z0 : Int), .int .u32 (z1 : Int), .int .u32 (z2 : Int), .int .u32 (z3 : Int), .int .u32 (z4 : Int), .int .u32 (z5 : Int), .int .u32 (z6 : Int), .int .u32 (z7 : Int), .int .u32 (z8 : Int), .int .u32 (z9 : Int), .int .u32 (z10 : Int), .int .u32 (z11 : Int), .int .u32 (z12 : Int), .int .u32 (z13 : Int), .int .u32 (z14 : Int), .int .u32 (z15 : Int)] 77) = W at *
  generalize w1.heap.size = g at *
  clear Ht
  go_loop [4, 12] (fun s i => ∃ k : Nat, k ≤ n ∧ i = .int .i64 k ∧ s = .int .u32 (sumN 4294967295 ((l.take k).flatMap Tx.l) : Int)) (fun _ i => n - (intOf i).toNat)
  case atStart => exact ⟨0, Nat.zero_le _, rfl, rfl⟩
  case round =>
    obtain ⟨k, hk, rfl, rfl⟩ := hrel
    by_cases hlt : k < n
    · obtain ⟨x, hx⟩ : ∃ x, l[k]? = some x := ⟨l[k]'(by have := Hl.out; omega), List.getElem?_eq_getElem _⟩
      obtain ⟨b, off, rfl, hbw, hc0⟩ := hrW _ _ (vt_get hx)
      have hnext : sumN 4294967295 ((l.take (k + 1)).flatMap Tx.l) = sumN (sumN 4294967295 ((l.take k).flatMap Tx.l)) x.l := by
        obtain ⟨h1, rfl⟩ := List.getElem?_eq_some_iff.1 hx
        rw [List.take_succ_eq_append_getElem h1, List.flatMap_append, sumN_append]
        simp
      have Hnext := Lib.hid hnext
      obtain ⟨hrx, hlx⟩ := HokW.out x (List.mem_of_getElem? hx)
      obtain ⟨xA, xc, xl⟩ := x
      simp only at hc0 hrx hlx
      have hs0 : sumN 4294967295 ((l.take k).flatMap Tx.l) < 4294967296 := sum_lt _
      clear hnext hx
      generalize sumN 4294967295 ((l.take k).flatMap Tx.l) = s0 at *
      go_wp2_with fail
      obtain ⟨m, hm⟩ : ∃ m, m = xl.length := ⟨_, rfl⟩
      have Hm := Lib.hid hm
      rw [← hm]
      clear hm
      go_loop [4, 18] (fun s j => ∃ q : Nat, q ≤ m ∧ j = .int .i64 q ∧ s = .int .u32 (sumN s0 (xl.take q) : Int)) (fun _ j => m - (intOf j).toNat)
      case atStart => exact ⟨0, Nat.zero_le _, rfl, rfl⟩
      case round =>
        obtain ⟨q, hq, rfl, rfl⟩ := hrel
        by_cases hlq : q < m
        · have hq' : q < xl.length := by rw [← Hm.out]; exact hlq
          obtain ⟨b2, off2, rfl, hb2, hc2⟩ := hrx.byte hq'
          have hstep : sumN s0 (xl.take (q + 1)) = byteN (sumN s0 (xl.take q)) xl[q].toNat := by
            rw [List.take_succ_eq_append_getElem hq', sumN_snoc]
          have hs1 : sumN s0 (xl.take q) < 4294967296 := sumN_lt _ _ hs0
          have hcb : xl[q].toNat < 256 := xl[q].toNat_lt
          generalize sumN s0 (xl.take q) = s1 at *
          generalize xl[q].toNat = cc at *
          rw [← byteN_half s1 cc hcb] at hstep
          have hx1 : bits .xor .u32 (s1 : Int) (cc : Int) = ((s1 ^^^ cc : Nat) : Int) := u32_xor_nat s1 cc hs1 (by omega)
          have hl1 : s1 ^^^ cc < 4294967296 := Nat.xor_lt_two_pow (n := 32) (by omega) (by omega)
          have ha1 := u32_and15 (s1 ^^^ cc) hl1
          have hi1 : (s1 ^^^ cc) % 16 < 16 := Nat.mod_lt _ (by omega)
          have hc3 : W.cell? ⟨g, (s1 ^^^ cc) % 16, none⟩ = some (.int .u32 (zK 4 ((s1 ^^^ cc) % 16) : Int)) := by
            rw [hB.cell, tabV_get 16 _ hi1, if_pos hi1]
          have hz1 : zK 4 ((s1 ^^^ cc) % 16) < 4294967296 := zK_lt _ _ (by omega)
          have hy1 : bits .xor .u32 ((s1 : Int) / 16) (zK 4 ((s1 ^^^ cc) % 16) : Int) = (halfN s1 cc : Int) := u32_xor_nat (s1 / 16) _ (by omega) hz1
          have hh1 : halfN s1 cc < 4294967296 := Nat.xor_lt_two_pow (n := 32) (by omega) (by omega)
          generalize halfN s1 cc = h1 at *
          generalize zK 4 ((s1 ^^^ cc) % 16) = z1' at *
          generalize (s1 ^^^ cc) % 16 = i1 at *
          generalize s1 ^^^ cc = x1 at *
          have hx2 : bits .xor .u32 (h1 : Int) ((cc : Int) / 16) = ((h1 ^^^ (cc / 16) : Nat) : Int) := u32_xor_nat h1 (cc / 16) hh1 (by omega)
          have hl2 : h1 ^^^ (cc / 16) < 4294967296 := Nat.xor_lt_two_pow (n := 32) (by omega) (by omega)
          have ha2 := u32_and15 (h1 ^^^ (cc / 16)) hl2
          have hi2 : (h1 ^^^ (cc / 16)) % 16 < 16 := Nat.mod_lt _ (by omega)
          have hc4 : W.cell? ⟨g, (h1 ^^^ (cc / 16)) % 16, none⟩ = some (.int .u32 (zK 4 ((h1 ^^^ (cc / 16)) % 16) : Int)) := by
            rw [hB.cell, tabV_get 16 _ hi2, if_pos hi2]
          have hz2 : zK 4 ((h1 ^^^ (cc / 16)) % 16) < 4294967296 := zK_lt _ _ (by omega)
          have hy2 : bits .xor .u32 ((h1 : Int) / 16) (zK 4 ((h1 ^^^ (cc / 16)) % 16) : Int) = (halfN h1 (cc / 16) : Int) := u32_xor_nat (h1 / 16) _ (by omega) hz2
          have hh2 : halfN h1 (cc / 16) < 4294967296 := Nat.xor_lt_two_pow (n := 32) (by omega) (by omega)
          generalize halfN h1 (cc / 16) = h2 at *
          generalize zK 4 ((h1 ^^^ (cc / 16)) % 16) = z2' at *
          generalize (h1 ^^^ (cc / 16)) % 16 = i2 at *
          generalize h1 ^^^ (cc / 16) = x2 at *
          have Hstep := Lib.hid hstep
          clear hstep hl1 hl2 hz1 hz2
          go_wp2_with fail
          go_round
          case rel => exact ⟨q + 1, by omega, by go_num, by rw [Hstep.out]⟩
          case measure => simp [intOf]; omega
        · obtain rfl : q = m := by omega
          have hd : sumN s0 (xl.take q) = sumN s0 xl := by rw [List.take_of_length_le (by rw [← Hm.out]; omega)]
          rw [hd]
          rw [← Hnext.out]
          go_wp2_with fail
          go_round
          case rel => exact ⟨k + 1, by omega, by go_num, rfl⟩
          case measure => simp [intOf]; omega
    · obtain rfl : k = n := by omega
      have hd : sumN 4294967295 ((l.take k).flatMap Tx.l) = sumN 4294967295 (l.flatMap Tx.l) := by rw [List.take_of_length_le (by rw [Hl.out]; omega)]
      rw [hd]
      have hs0 := sum_lt (l.flatMap Tx.l)
      generalize hS : sumN 4294967295 (l.flatMap Tx.l) = s0 at *
      have HS := Lib.hid hS
      clear hd hS
      go_wp2_with fail
      go_ret
      refine ⟨?_, hbe⟩
      unfold crc
      rw [HS.out]
      have hn := not_u32 s0 hs0
      generalize bits .xor .u32 IntKind.u32.max (s0 : Int) = X at *
      subst hn
      rfl
end Go.Proofs.YtjoblmdfbddkeaaDoor

/- check.Seal, the document's sum and seal, walked. -/
namespace Go.Proofs.YtjoblmdfbddkeaaDoor
open Go.RowKit

/-- A number's lowest bytes, the lowest first. -/
def leB : Nat → Nat → List UInt8
  | 0, _ => []
  | k + 1, n => UInt8.ofNat (n % 256) :: leB k (n / 256)
theorem leB_length : ∀ k n, (leB k n).length = k
  | 0, _ => rfl
  | k + 1, n => by simp [leB, leB_length k]
def sealL (b : List UInt8) : List UInt8 := b ++ leB 4 (crc b)
theorem sealL_length (b : List UInt8) : (sealL b).length = b.length + 4 := by simp [sealL, leB_length]

section
variable {P : Program} (w : World)
theorem wpList_append_byte_own {ops : Array Oper} {rest : List Oper} {o : Oper} {a : Act} {Q : Exit → Act → World → Prop} (hgd : o.guard = none) (s x : Operand) (t : TypeId)
    (ho : o.op = .call { callee := .builtin .append, args := #[s, x], argTypes := #[t, t] })
    (base : Nat) (e : TypeId) (z : Value) (he : Elm P t e z 1 1)
    (v : Value) (l : List UInt8) (hs : a.eval s = v) (happ : AppB w base e v l) (c : Int) (hx : a.eval x = .slice (some ⟨w.heap.size, 0, none⟩) 1 1)
    (hsz : l.length + 1 ≤ 140737488355328) (hbase : base ≤ w.heap.size) (hc : 0 ≤ c ∧ c < 256)
    (h : ∀ v' w', w'.ownsRow base e 1 v' (l.length + 1) (vb (l ++ [UInt8.ofNat c.toNat])) → Below base w w' → wpList P ops Q rest (a.put o.dst v') w') :
    wpList P ops Q (o :: rest) a (w.alloc (.cells #[.int .u8 c] e)) := by
  refine wpList_append_app _ hgd s x t ho base e z 1 1 he v l.length (vb l) hs (App.alloc happ _) (w.heap.size + 1) _ 1 1 [.int .u8 c] hx rfl (rd_one w _ _) (by intro u hu; simp at hu; subst hu; rfl) (by simp only [maxLen]; omega) (by omega) (by simp; omega) fun v' w' hA => ?_
  have hcv : (Value.int .u8 c) = .int .u8 ((UInt8.ofNat c.toNat).toNat : Int) := by
    have : (UInt8.ofNat c.toNat).toNat = c.toNat := by simp; omega
    rw [this, Int.toNat_of_nonneg hc.1]
  refine h v' w' ?_ (((Below.refl _ _).alloc hbase _).trans hA.below)
  have := hA.own (.inl (by omega))
  rw [hcv] at this
  rw [vb_append]
  exact this
end
theorem own_appB {w : World} {base : Nat} {e : TypeId} {v : Value} {l : List UInt8} {n : Nat} (h : w.ownsRow base e 1 v n (vb l)) (hl : l.length = n) : AppB w base e v l := by
  subst hl
  exact .inl h

set_option maxHeartbeats 1000000 in
set_option maxRecDepth 100000 in
theorem seal_any (A : Option Addr) (n c : Nat) (b : List UInt8) (w : World) (hl : b.length = n) (hn : n ≤ c) (hm : c ≤ maxLen) (hA : A = none → n = 0) (hr : Rd w w.heap.size A (vb b)) (hsz : n ≤ 35184372088832) :
    Calls Tryd.prog 24 #[.slice A n c] w fun e w' => ∃ v, e = .returned v ∧ w'.ownsRow w.heap.size 5 1 v (n + 4) (vb (sealL b)) ∧ Below w.heap.size w w' := by
  have Hl := Lib.hid hl
  clear hl
  go_enter Tryd.func24, Tryd.ntmps24
  go_wp2_with fail
  refine (cof_any _ 1 1 [⟨A, c, b⟩] _ rfl (by omega) ?_ ?_).mono ?_
  · exact (by
      have := Rd.new w #[.slice A n c] 22
      have e : vt [⟨A, c, b⟩] = [.slice A n c] := by simp [vt, Tx.val, Hl.out]
      rw [e]
      exact this)
  · intro x hx
    simp only [List.mem_singleton] at hx
    subst hx
    exact ⟨hr.alloc_ _, by have := Hl.out; simp only; omega⟩
  rintro e w1 ⟨rfl, hb1⟩
  have hbw := below_tr (below_al (Below.refl w.heap.size w) _) hb1
  simp only [List.flatMap_cons, List.flatMap_nil, List.append_nil]
  have hN : crc b < 4294967296 := crc_lt b
  have HE : Hid (b ++ leB 4 (crc b) = sealL b) := Lib.hid rfl
  generalize crc b = N at *
  go_wp2_with fail
  refine (clip_any _ _ _ _ hn hm).mono ?_
  rintro e w2 ⟨rfl, rfl⟩
  go_wp2_with fail
  go_loopw [0, 3, 9] (fun v nv i wr => ∃ (q : Nat) (acc : List UInt8) (N : Nat), q ≤ 4 ∧ i = .int .i64 q ∧ nv = .int .u32 (N : Int) ∧ N < 4294967296 ∧ AppB wr w.heap.size 5 v acc ∧ Hid (acc ++ leB (4 - q) N = sealL b) ∧ Hid (acc.length = n + q) ∧ (0 < q → wr.ownsRow w.heap.size 5 1 v (n + q) (vb acc)) ∧ Below w.heap.size w wr) (fun _ _ i _ => 4 - (intOf i).toNat)
  case atStart =>
    exact ⟨0, b, N, by omega, rfl, rfl, hN, AppB.clip Hl.out hA (hr.below_ hbw), HE, Hl, fun h => by omega, hbw⟩
  case round =>
    obtain ⟨q, acc, N, hq, rfl, rfl, hN, happ, HE, HL, hown, hbe⟩ := hrel
    by_cases hlt : q < 4
    · have hroom : acc.length + 1 ≤ 140737488355328 := by have := HL.out; omega
      have Hroom := Lib.hid hroom
      have Hown := Lib.hid hown
      clear hroom hown
      go_wp2_with (at_builtin; refine wpList_append_byte_own _ rfl (.tmp 11) (.tmp 14) _ rfl w.heap.size _ _ elm_u8 _ acc rfl happ _ rfl Hroom.out hbe.size (by omega) ?_; intro v1 w1 hown1 hbe1)
      go_roundw
      case rel =>
        refine ⟨q + 1, acc ++ [UInt8.ofNat (N % 256)], N / 256, by omega, by go_num, by go_num, by omega, ?_, ?_, ?_, ?_, hbe.trans hbe1⟩
        · rw [show ((N : Int) % 256).toNat = N % 256 by omega] at hown1
          exact own_appB hown1 (by simp)
        · have h := HE.out
          rw [show 4 - q = (4 - (q + 1)) + 1 by omega] at h
          show _ = _
          rw [← h, List.append_assoc]
          rfl
        · have := HL.out
          show _ = _
          simp only [List.length_append, List.length_cons, List.length_nil]
          omega
        · intro _
          rw [show ((N : Int) % 256).toNat = N % 256 by omega] at hown1
          have := HL.out
          rw [show n + (q + 1) = acc.length + 1 by omega]
          exact hown1
      case measure => simp [intOf]; omega
    · obtain rfl : q = 4 := by omega
      have he := HE.out
      have hw := hown (by omega)
      clear hown
      have HW := Lib.hid hw
      clear hw he
      go_wp2_with fail
      go_ret
      refine ⟨_, rfl, ?_, hbe⟩
      have := HW.out
      have he := HE.out
      rw [show leB (4 - 4) N = [] from rfl, List.append_nil] at he
      rw [← he]
      exact this

set_option maxHeartbeats 1000000 in
set_option maxRecDepth 100000 in
theorem rof_any (A : Option Addr) (n c : Nat) (b : List UInt8) (w : World) (hl : b.length = n) (hr : Rd w w.heap.size A (vb b)) (hsz : n ≤ 35184372088832) :
    Calls Tryd.prog 45 #[.slice A n c] w fun e w' => e = .returned (.int .u32 (crc b : Int)) ∧ w = w' := by
  have Hl := Lib.hid hl
  clear hl
  go_enter Tryd.func45, Tryd.ntmps45
  go_wp2_with fail
  go_loop [3, 4] (fun s i => ∃ k : Nat, k ≤ n ∧ i = .int .i64 k ∧ s = .int .u32 (sumN 4294967295 (b.take k) : Int)) (fun _ i => n - (intOf i).toNat)
  case atStart => exact ⟨0, Nat.zero_le _, rfl, rfl⟩
  case round =>
    obtain ⟨k, hk, rfl, rfl⟩ := hrel
    by_cases hlt : k < n
    · have hk' : k < b.length := by rw [Hl.out]; exact hlt
      obtain ⟨b2, off2, rfl, hb2, hc2⟩ := hr.byte hk'
      have hstep : sumN 4294967295 (b.take (k + 1)) = byteN (sumN 4294967295 (b.take k)) b[k].toNat := by
        rw [List.take_succ_eq_append_getElem hk', sumN_snoc]
      have hs1 : sumN 4294967295 (b.take k) < 4294967296 := sum_lt _
      have hcb : b[k].toNat < 256 := b[k].toNat_lt
      generalize sumN 4294967295 (b.take k) = s1 at *
      generalize b[k].toNat = cc at *
      rw [← docK_byte s1 cc hcb] at hstep
      have Hstep := Lib.hid hstep
      clear hstep
      go_wp2_with fail
      go_loop [3, 5, 6] (fun s cv j => ∃ q s' c' : Nat, q ≤ 8 ∧ j = .int .i64 q ∧ s = .int .u32 (s' : Int) ∧ cv = .int .u8 (c' : Int) ∧ s' < 4294967296 ∧ c' < 256 ∧ Hid (docK (8 - q) s' c' = sumN 4294967295 (b.take (k + 1)))) (fun _ _ j => 8 - (intOf j).toNat)
      case atStart => exact ⟨0, s1, cc, by omega, rfl, rfl, rfl, hs1, hcb, Lib.hid Hstep.out.symm⟩
      case round =>
        obtain ⟨q, s', c', hq, rfl, rfl, rfl, hs', hc', HD⟩ := hrel
        by_cases hlq : q < 8
        · have hd : docK (8 - (q + 1)) (docN s' c') (c' / 2) = sumN 4294967295 (b.take (k + 1)) := by
            rw [← HD.out, show 8 - q = (8 - (q + 1)) + 1 by omega]
            rfl
          have hdl : docN s' c' < 4294967296 := by
            unfold docN
            refine Nat.xor_lt_two_pow (n := 32) (by omega) ?_
            split
            · unfold CP; omega
            · omega
          have Hd := Lib.hid hd
          clear hd
          have hpoly := u32_poly s' hs'
          by_cases hne : s' % 2 = c' % 2
          · have h1 : ((s' : Int) % 2 != (c' : Int) % 2) = false := by rw [bne_eq_false_iff_eq]; omega
            have hv : docN s' c' = s' / 2 := by unfold docN; rw [if_neg (by omega), Nat.xor_zero]
            rw [hv] at Hd hdl
            clear hv hne
            go_wp2_with fail
            go_round
            case rel => exact ⟨q + 1, s' / 2, c' / 2, by omega, by go_num, by go_num, by go_num, hdl, by omega, Hd⟩
            case measure => simp [intOf]; omega
          · have h1 : ((s' : Int) % 2 != (c' : Int) % 2) = true := by rw [bne_iff_ne]; omega
            have hv : docN s' c' = s' / 2 ^^^ CP := by unfold docN; rw [if_pos hne]
            rw [← hv] at hpoly
            clear hv hne
            go_wp2_with fail
            go_round
            case rel => exact ⟨q + 1, docN s' c', c' / 2, by omega, by go_num, by go_num, by go_num, hdl, by omega, Hd⟩
            case measure => simp [intOf]; omega
        · obtain rfl : q = 8 := by omega
          have hd := HD.out
          rw [show docK (8 - 8) s' c' = s' from rfl] at hd
          rw [hd]
          clear hd
          go_wp2_with fail
          go_round
          case rel => exact ⟨k + 1, by omega, by go_num, rfl⟩
          case measure => simp [intOf]; omega
    · obtain rfl : k = n := by omega
      have hd : sumN 4294967295 (b.take k) = sumN 4294967295 b := by rw [List.take_of_length_le (by rw [Hl.out]; omega)]
      rw [hd]
      have hs0 := sum_lt b
      generalize hS : sumN 4294967295 b = s0 at *
      have HS := Lib.hid hS
      clear hd hS
      go_wp2_with fail
      go_ret
      refine ⟨?_, rfl⟩
      unfold crc
      rw [HS.out]
      have e : ((4294967295 - s0 : Nat) : Int) = 4294967295 - (s0 : Int) := by omega
      rw [e]
      rfl

set_option maxHeartbeats 1000000 in
set_option maxRecDepth 100000 in
theorem rseal_any (A : Option Addr) (n c : Nat) (b : List UInt8) (w : World) (hl : b.length = n) (hr : Rd w w.heap.size A (vb b)) (hsz : n ≤ 35184372088832) :
    Calls Tryd.prog 29 #[.slice A n c] w fun e w' => ∃ v, e = .returned v ∧ w'.ownsRow w.heap.size 5 1 v (n + 4) (vb (sealL b)) ∧ Below w.heap.size w w' := by
  have Hl := Lib.hid hl
  clear hl
  go_enter Tryd.func29, Tryd.ntmps29
  go_wp2_with fail
  refine (rof_any A n c b w Hl.out hr hsz).mono ?_
  rintro e w1 ⟨rfl, rfl⟩
  have hN : crc b < 4294967296 := crc_lt b
  have HE : Hid (b ++ leB 4 (crc b) = sealL b) := Lib.hid rfl
  generalize crc b = N at *
  go_wp2_with (at_builtin; refine wpList_copy_bytes _ rfl (.tmp 8) (.tmp 9) _ rfl _ _ elm_u8 rfl A n c b rfl Hl.out hr (by omega) ?_; intro A1 c1 w1 hC)
  have happ0 := own_appB hC.own Hl.out
  have hb0 := hC.below
  clear hC
  go_loopw [3, 4, 5] (fun nv v i wr => ∃ (q : Nat) (acc : List UInt8) (N : Nat), q ≤ 4 ∧ i = .int .i64 q ∧ nv = .int .u32 (N : Int) ∧ N < 4294967296 ∧ AppB wr w.heap.size 5 v acc ∧ Hid (acc ++ leB (4 - q) N = sealL b) ∧ Hid (acc.length = n + q) ∧ (0 < q → wr.ownsRow w.heap.size 5 1 v (n + q) (vb acc)) ∧ Below w.heap.size w wr) (fun _ _ i _ => 4 - (intOf i).toNat)
  case atStart =>
    exact ⟨0, b, N, by omega, rfl, rfl, hN, happ0, HE, Hl, fun h => by omega, hb0⟩
  case round =>
    obtain ⟨q, acc, N, hq, rfl, rfl, hN, happ, HE, HL, hown, hbe⟩ := hrel
    by_cases hlt : q < 4
    · have hroom : acc.length + 1 ≤ 140737488355328 := by have := HL.out; omega
      have Hroom := Lib.hid hroom
      have Hown := Lib.hid hown
      clear hroom hown
      go_wp2_with (at_builtin; refine wpList_append_byte_own _ rfl (.tmp 15) (.tmp 19) _ rfl w.heap.size _ _ elm_u8 _ acc rfl happ _ rfl Hroom.out hbe.size (by omega) ?_; intro v1 w1 hown1 hbe1)
      go_roundw
      case rel =>
        refine ⟨q + 1, acc ++ [UInt8.ofNat (N % 256)], N / 256, by omega, by go_num, by go_num, by omega, ?_, ?_, ?_, ?_, hbe.trans hbe1⟩
        · rw [show ((N : Int) % 256).toNat = N % 256 by omega] at hown1
          exact own_appB hown1 (by simp)
        · have h := HE.out
          rw [show 4 - q = (4 - (q + 1)) + 1 by omega] at h
          show _ = _
          rw [← h, List.append_assoc]
          rfl
        · have := HL.out
          show _ = _
          simp only [List.length_append, List.length_cons, List.length_nil]
          omega
        · intro _
          rw [show ((N : Int) % 256).toNat = N % 256 by omega] at hown1
          have := HL.out
          rw [show n + (q + 1) = acc.length + 1 by omega]
          exact hown1
      case measure => simp [intOf]; omega
    · obtain rfl : q = 4 := by omega
      have hw := hown (by omega)
      clear hown
      have HW := Lib.hid hw
      clear hw
      go_wp2_with fail
      go_ret
      refine ⟨_, rfl, ?_, hbe⟩
      have := HW.out
      have he := HE.out
      rw [show leB (4 - 4) N = [] from rfl, List.append_nil] at he
      rw [← he]
      exact this

/-- What slices.Equal says of two rows of bytes. -/
def EqB (a b : List UInt8) (w : World) (e : Ending) (w' : World) : Prop := ∃ r : Bool, e = .returned (.bool r) ∧ (r = true ↔ a = b) ∧ Below w.heap.size w w'
set_option maxHeartbeats 1000000 in
set_option maxRecDepth 100000 in
theorem equal_any (A : Option Addr) (n c : Nat) (a : List UInt8) (B : Option Addr) (m d : Nat) (b : List UInt8) (w : World) (hl : a.length = n) (hr : Rd w w.heap.size A (vb a)) (hl2 : b.length = m) (hr2 : Rd w w.heap.size B (vb b))
    (hn : n ≤ 70368744177664) (hm : m ≤ 70368744177664) :
    Calls Tryd.prog 30 #[.slice A n c, .slice B m d] w (EqB a b w) := by
  have Hl := Lib.hid hl
  have Hl2 := Lib.hid hl2
  clear hl hl2
  by_cases hnm : n = m
  · subst hnm
    go_enter Tryd.func30, Tryd.ntmps30
    go_wp2_with fail
    go_loopw [13] (fun i wr => ∃ q : Nat, q ≤ n ∧ i = .int .i64 q ∧ Hid (a.take q = b.take q) ∧ Below w.heap.size w wr) (fun i _ => n - (intOf i).toNat)
    case atStart => exact ⟨0, Nat.zero_le _, rfl, Lib.hid (by rw [List.take_zero, List.take_zero]), Below.refl _ _⟩
    case round =>
      obtain ⟨q, hq, rfl, HE, hbe⟩ := hrel
      by_cases hlt : q < n
      · have hqa : q < a.length := by rw [Hl.out]; exact hlt
        have hqb : q < b.length := by rw [Hl2.out]; exact hlt
        obtain ⟨b1, o1, rfl, hb1, hc1⟩ := (hr.below hbe).byte hqa
        obtain ⟨b2, o2, rfl, hb2, hc2⟩ := (hr2.below hbe).byte hqb
        by_cases hxy : a[q] = b[q]
        · have htk : a.take (q + 1) = b.take (q + 1) := by
            rw [List.take_succ_eq_append_getElem hqa, List.take_succ_eq_append_getElem hqb, HE.out, hxy]
          have Ht := Lib.hid htk
          rw [← hxy] at hc2
          generalize (a[q].toNat : Int) = x at *
          clear htk hxy
          go_wp2_with fail
          go_region
          all_goals
            go_wp2_with fail
            go_roundw
            case rel => exact ⟨q + 1, by omega, by go_num, Ht, below_drN hbe 1⟩
            case measure => simp [intOf]; omega
        · have hne : ((a[q].toNat : Int) != (b[q].toNat : Int)) = true := by
            rw [bne_iff_ne]
            intro h
            exact hxy (UInt8.toNat_inj.1 (by omega))
          have hab : a ≠ b := by rintro rfl; exact hxy rfl
          have Hab := Lib.hid hab
          generalize (a[q].toNat : Int) = x at *
          generalize (b[q].toNat : Int) = y at *
          clear hab hxy
          go_wp2_with fail
          go_region
          all_goals
            go_wp2_with fail
            go_ret
            exact ⟨_, rfl, ⟨(fun h => by cases h), (fun h => absurd h Hab.out)⟩, below_drN hbe 1⟩
      · obtain rfl : q = n := by omega
        go_wp2_with fail
        go_ret
        refine ⟨_, rfl, ?_, hbe⟩
        have h := HE.out
        rw [List.take_of_length_le (by rw [Hl.out]; omega), List.take_of_length_le (by rw [Hl2.out]; omega)] at h
        simp [h]
  · have hne : ((n : Int) != (m : Int)) = true := by rw [bne_iff_ne]; omega
    go_enter Tryd.func30, Tryd.ntmps30
    go_wp2_with fail
    go_ret
    refine ⟨_, rfl, ?_, Below.refl _ _⟩
    have h1 := Hl.out
    have h2 := Hl2.out
    constructor
    · intro h; cases h
    · rintro rfl; omega
end Go.Proofs.YtjoblmdfbddkeaaDoor

/- check.Open, walked; lives of layer 2. -/
namespace Go.Proofs.YtjoblmdfbddkeaaDoor
open Go.RowKit

/-- Sealed bytes without their sum. -/
def openL (l : List UInt8) : Option (List UInt8) := if 4 ≤ l.length ∧ sealL (l.take (l.length - 4)) = l then some (l.take (l.length - 4)) else none
/-- What Open leaves. -/
def OpenE (w : World) (l : List UInt8) (e : Ending) (w' : World) : Prop :=
  ∃ v, e = .returned (.tuple #[v, .bool (openL l).isSome]) ∧ (openL l = none → v = .slice none 0 0) ∧ (∀ b, openL l = some b → w'.ownsRow w.heap.size 5 1 v b.length (vb b)) ∧ Below w.heap.size w w'

set_option maxHeartbeats 1000000 in
set_option maxRecDepth 100000 in
theorem copen_any (A : Option Addr) (n c : Nat) (l : List UInt8) (w : World) (hl : l.length = n) (hn : n ≤ c) (hm : c ≤ maxLen) (hA : A = none → n = 0) (hr : Rd w w.heap.size A (vb l)) (hsz : n ≤ 35184372088832) :
    Calls Tryd.prog 15 #[.slice A n c] w (OpenE w l) := by
  unfold maxLen at hm
  by_cases h4 : n < 4
  · have ho : openL l = none := by unfold openL; rw [if_neg (by omega)]
    have Ho := Lib.hid ho
    clear ho hl
    go_enter Tryd.func15, Tryd.ntmps15
    go_wp2_with fail
    go_ret2
    refine ⟨.slice none 0 0, ?_, fun _ => rfl, fun b hb => ?_, Below.refl _ _⟩
    · rw [Ho.out]; rfl
    · rw [Ho.out] at hb; cases hb
  · obtain ⟨m, rfl⟩ : ∃ m, n = m + 4 := ⟨n - 4, by omega⟩
    have hbl : (l.take m).length = m := by rw [List.length_take]; omega
    have hrb : Rd w w.heap.size A (vb (l.take m)) := by rw [vb_take]; exact hr.take m
    have hAb : A = none → m = 0 := fun h => by have := hA h; omega
    have ho : openL l = if sealL (l.take m) = l then some (l.take m) else none := by
      unfold openL
      rw [show l.length - 4 = m by omega]
      by_cases h : sealL (l.take m) = l
      · rw [if_pos ⟨by omega, h⟩, if_pos h]
      · rw [if_neg (fun x => h x.2), if_neg h]
    have Ho := Lib.hid ho
    have Hl := Lib.hid hl
    have Hbl := Lib.hid hbl
    clear ho hl hA hbl
    have hcast : ((m + 4 : Nat) : Int) - 4 = (m : Int) := by omega
    go_enter Tryd.func15, Tryd.ntmps15
    go_wp2_with fail
    refine (seal_any A m c (l.take m) w Hbl.out (by omega) (by unfold maxLen; omega) hAb hrb (by omega)).mono ?_
    rintro e w1 ⟨v, rfl, hown, hb1⟩
    obtain ⟨A1, c1, rfl, hc1, hm1, _, hr1⟩ := own_shape hown (by unfold maxLen; omega)
    clear hown
    go_wp2_with fail
    refine (equal_any A1 (m + 4) c1 (sealL (l.take m)) A (m + 4) c l w1 (by rw [sealL_length, Hbl.out]) hr1 Hl.out (hr.below_ hb1) (by omega) (by omega)).mono ?_
    rintro e w2 ⟨r, rfl, hiff, hb2⟩
    have hb := below_tr hb1 hb2
    by_cases hs : sealL (l.take m) = l
    · obtain rfl : r = true := hiff.2 hs
      have ho := Ho.out
      rw [if_pos hs] at ho
      have Ho2 := Lib.hid ho
      clear ho Ho hs hiff
      go_wp2_with fail
      refine (clone_any A m c w2.heap.size (l.take m) w2 Hbl.out (by omega) hAb (hrb.below_ hb)).mono ?_
      rintro e w3 ⟨v, rfl, hown3, hb3⟩
      go_wp2_with fail
      go_ret2
      refine ⟨v, by rw [Ho2.out]; rfl, fun h => ?_, fun b h => ?_, below_tr hb hb3⟩
      · rw [Ho2.out] at h; cases h
      · rw [Ho2.out] at h
        obtain rfl : l.take m = b := by injection h
        rw [Hbl.out]
        exact own_mono hown3 hb.size
    · obtain rfl : r = false := by
        cases r
        · rfl
        · exact absurd (hiff.1 rfl) hs
      have ho := Ho.out
      rw [if_neg hs] at ho
      have Ho2 := Lib.hid ho
      clear ho Ho hs hiff
      go_wp2_with fail
      go_ret2
      refine ⟨.slice none 0 0, ?_, fun _ => rfl, fun b hb => ?_, hb⟩
      · rw [Ho2.out]; rfl
      · rw [Ho2.out] at hb; cases hb
end Go.Proofs.YtjoblmdfbddkeaaDoor

/- Blocks of a segment: sealed bytes opened, by the program and by the document. -/
namespace Go.Proofs.YtjoblmdfbddkeaaDoor
open Go.RowKit

theorem vrs_one {μ : Ren} {v : Value} {rargs : Array Value} (h : VRs μ [v] rargs.toList) : ∃ rv, rargs = #[rv] ∧ VR μ v rv := by
  cases rargs with
  | mk l =>
    simp only at h
    cases h with
    | cons h1 h2 =>
      cases h2
      exact ⟨_, rfl, h1⟩
set_option maxHeartbeats 4000000 in
set_option maxRecDepth 100000 in
set_option linter.unusedSimpArgs false in
theorem g_copen (H : Hp) (p : Option Addr) (n c : Nat) (L : List UInt8) (hb : BS H (.slice p n c) L) (hn : n ≤ 35184372088832) : GCalls Tryd.prog 15 [.slice p n c] [] H fun v H' => (∃ p' n' c', v = .tuple #[.slice p' n' c', .bool (openL L).isSome] ∧ BS H' (.slice p' n' c') ((openL L).getD [])) ∧ HExt [] H H' := fun μ w rargs hs hv => by
  obtain ⟨rv, rfl, hv2⟩ := vrs_one hv
  obtain ⟨A, c', rfl, q1, q2, q3, q4, q5⟩ := bs_real hb hs hv2
  refine (copen_any A n c' L w q1 q2 q3 q4 q5 hn).mono ?_
  rintro e w' ⟨v, rfl, k1, k2, k3⟩
  cases ho : openL L with
  | none =>
    obtain rfl := k1 ho
    exact ⟨.tuple #[.slice none 0 0, .bool false], _, H, μ, rfl, ⟨⟨none, 0, 0, rfl, .none⟩, HExt.refl _ _⟩, .tuple (.cons .sl0 (.cons (.bool _) .nil)), hs.below k3, Ext'.refl μ, Frm.of_below k3 _, fun i M hi hM => by have := (hs.len i M hM).1; omega, Nat.le_refl _, fun _ _ _ h => h⟩
  | some b =>
    obtain ⟨μ', H', p', c2, g1, g2, g3, g4, g5, g6, g7⟩ := hs.ownB k3 (k2 b ho)
    exact ⟨.tuple #[.slice p' b.length c2, .bool true], _, H', μ', rfl, ⟨⟨p', _, c2, rfl, g4⟩, g3⟩, .tuple (.cons g5 (.cons (.bool _) .nil)), g1, g2, Frm.of_below k3 _, fun i M hi hM => .inr (g6 i M hi hM), g3.len, g7⟩
set_option maxHeartbeats 4000000 in
set_option maxRecDepth 100000 in
set_option linter.unusedSimpArgs false in
theorem g_rseal (H : Hp) (p : Option Addr) (n c : Nat) (L : List UInt8) (hb : BS H (.slice p n c) L) (hn : n ≤ 35184372088832) : GCalls Tryd.prog 29 [.slice p n c] [] H (fun v H' => v = .slice (some ⟨H.length, 0, none⟩) (n + 4) capU ∧ H' = H.push ⟨5, 1, vb (sealL L), true⟩) :=
  GCalls.own1 hb (by omega) fun A c' w h1 _ _ _ h5 => rseal_any A n c' L w h1 h5 hn
set_option maxHeartbeats 4000000 in
set_option maxRecDepth 100000 in
set_option linter.unusedSimpArgs false in
theorem g_rseal2 (H : Hp) (p : Option Addr) (n c : Nat) (L : List UInt8) (hb : BS H (.slice p n c) L) (hn : n ≤ 35184372088832) : GCalls Tryd.prog 29 [.slice p n c] [] H (fun v H' => ∃ p' c', v = .slice p' (n + 4) c' ∧ BS H' (.slice p' (n + 4) c') (sealL L) ∧ HExt [] H H') :=
  (g_rseal H p n c L hb hn).mono fun v H' ⟨e1, e2⟩ => by
    subst e1 e2
    exact ⟨_, _, rfl, bs_push rfl (by rw [sealL_length, hb.len]), (HExt.refl _ _).push⟩
theorem open_none {L : List UInt8} (h : (L.length : Int) < 4) : openL L = none := if_neg fun e => by omega
set_option maxHeartbeats 4000000 in
set_option maxRecDepth 100000 in
set_option linter.unusedSimpArgs false in
theorem g_ropen (H : Hp) (p : Option Addr) (n c : Nat) (L : List UInt8) (hb : BS H (.slice p n c) L) (hn : n ≤ 35184372088832) : GCalls Tryd.prog 20 [.slice p n c] [] H fun v H' => (∃ p' n' c', v = .tuple #[.slice p' n' c', .bool (openL L).isSome] ∧ BS H' (.slice p' n' c') ((openL L).getD [])) ∧ HExt [] H H' := by
  have hln := hb.len
  have hbs := hb
  cases hb with
  | none =>
    have ho : openL [] = none := open_none (by simp)
    rw [ho]
    refine GCalls.body tab_is Tryd.func20 rfl Tryd.results20 Tryd.ntmps20 (by simp) ?_ ?_
    · first | (intro _ h; cases h; done) | (simp; done) | (simp; omega) | (intro i hi; simp at hi; rcases hi with rfl | rfl <;> omega) | (intro i hi; simp at hi; rcases hi with rfl | rfl | rfl <;> omega)
    focus
      refine GWP.seq ?_
      refine GWP.region ?_
      refine GOps.r rfl rfl rfl rfl (grd_assign rfl rfl) ?_
      refine GOps.r rfl rfl rfl rfl (grd_assign rfl rfl) ?_
      refine GOps.nil ?_
      refine GWP.seq ?_
      refine GWP.seq ?_
      refine GWP.draw [.reads [0, 1, 2, 3, 4, 5, 11, 6, 12, 7, 8], .write 9, .reads [10, 13, 14]] false [] (by kernel_rfl) (by kernel_rfl) (by kernel_rfl) (by kernel_rfl) ?_ ?_
      · intro _ h; cases h; done
      refine GPcs.reads (by simp only [List.filterMap_cons, List.filterMap_nil, List.getElem?_toArray, List.getElem?_cons_succ, List.getElem?_cons_zero]; rfl) ?_
      refine GQ.r rfl rfl rfl rfl (grd_move rfl rfl) ?_ ?_
      · refine .inr ?_; simp
      refine GQ.r rfl rfl rfl rfl (grd_len tab_is rfl rfl rfl rfl rfl) ?_ ?_
      · refine .inr ?_; simp
      refine GQ.r rfl rfl rfl rfl (grd_lss rfl rfl rfl) ?_ ?_
      · refine .inr ?_; simp
      refine GQ.r rfl rfl rfl rfl (grd_move rfl rfl) ?_ ?_
      · refine .inr ?_; simp
      refine GQ.no rfl ?_ rfl rfl ?_
      · simp; done
      refine GQ.no rfl ?_ rfl rfl ?_
      · simp; done
      refine GQ.no rfl ?_ rfl rfl ?_
      · simp; done
      refine GQ.no rfl ?_ rfl rfl ?_
      · simp; done
      refine GQ.no rfl ?_ rfl rfl ?_
      · simp; done
      refine GQ.no rfl ?_ rfl rfl ?_
      · simp; done
      refine GQ.no rfl ?_ rfl rfl ?_
      · simp; done
      refine GQ.nil ?_
      refine GPcs.no rfl rfl ?_ rfl rfl ?_
      · simp; done
      refine GPcs.reads (by simp only [List.filterMap_cons, List.filterMap_nil, List.getElem?_toArray, List.getElem?_cons_succ, List.getElem?_cons_zero]; rfl) ?_
      refine GQ.no rfl ?_ rfl rfl ?_
      · simp; done
      refine GQ.no rfl ?_ rfl rfl ?_
      · simp; done
      refine GQ.r rfl rfl rfl rfl (grd_pick_t rfl rfl ?_ rfl) ?_ ?_
      · exact decide_eq_true (by omega)
      · refine .inr ?_; simp
      refine GQ.nil ?_
      refine GPcs.nil ?_
      refine GWP.cond_t rfl ?_ ?_
      · with_reducible rfl
      refine GWP.seq ?_
      refine GWP.region ?_
      refine GOps.r rfl rfl rfl rfl (grd_assign rfl rfl) ?_
      refine GOps.r rfl rfl rfl rfl (grd_assign rfl rfl) ?_
      refine GOps.nil ?_
      refine GWP.ret ?_
      refine ⟨_, .two (.one rfl) (.one rfl), ?_⟩
      refine ⟨?_, ?_⟩
      refine ⟨_, _, _, rfl, ?_⟩
      · assumption
      · exact HExt.refl _ _
  | some hb hs hl hof hu =>
    rename_i j off t2 rw2 cs2
    have hlt := Hp.at_lt hb
    refine GCalls.body tab_is Tryd.func20 rfl Tryd.results20 Tryd.ntmps20 (by simp) ?_ ?_
    · first | (intro _ h; cases h; done) | (simp; done) | (simp; omega) | (intro i hi; simp at hi; rcases hi with rfl | rfl <;> omega) | (intro i hi; simp at hi; rcases hi with rfl | rfl | rfl <;> omega)
    focus
      refine GWP.seq ?_
      refine GWP.region ?_
      refine GOps.r rfl rfl rfl rfl (grd_assign rfl rfl) ?_
      refine GOps.r rfl rfl rfl rfl (grd_assign rfl rfl) ?_
      refine GOps.nil ?_
      refine GWP.seq ?_
      refine GWP.seq ?_
      refine GWP.draw [.reads [0, 1, 2, 3, 4, 5, 11, 6, 12, 7, 8], .write 9, .reads [10, 13, 14]] false [j] (by kernel_rfl) (by kernel_rfl) (by kernel_rfl) (by kernel_rfl) ?_ ?_
      · simp; omega
      refine GPcs.reads (by simp only [List.filterMap_cons, List.filterMap_nil, List.getElem?_toArray, List.getElem?_cons_succ, List.getElem?_cons_zero]; rfl) ?_
      refine GQ.r rfl rfl rfl rfl (grd_move rfl rfl) ?_ ?_
      · refine .inr ?_; simp
      refine GQ.r rfl rfl rfl rfl (grd_len tab_is rfl rfl rfl rfl rfl) ?_ ?_
      · refine .inr ?_; simp
      refine GQ.r rfl rfl rfl rfl (grd_lss rfl rfl rfl) ?_ ?_
      · refine .inr ?_; simp
      refine GQ.r rfl rfl rfl rfl (grd_move rfl rfl) ?_ ?_
      · refine .inr ?_; simp
      refine GQ.split rfl rfl (fun b1 => ?_) (fun b1 => ?_)
      simp only [beq_true, beq_false, Bool.not_true, Bool.not_false, Bool.not_eq_true', Bool.not_eq_false', decide_eq_true_eq, decide_eq_false_iff_not] at b1
      refine GQ.take rfl rfl ?_ ?_
      · exact beq_iff_eq.2 (decide_eq_false (by assumption))
      refine GQ.r rfl rfl rfl rfl (grd_move rfl rfl) ?_ ?_
      · refine .inr ?_; simp
      refine GQ.take rfl rfl ?_ ?_
      · exact beq_iff_eq.2 (decide_eq_false (by assumption))
      refine GQ.r rfl rfl rfl rfl (grd_move rfl rfl) ?_ ?_
      · refine .inr ?_; simp
      refine GQ.take rfl rfl ?_ ?_
      · exact beq_iff_eq.2 (decide_eq_false (by assumption))
      refine GQ.r rfl rfl rfl rfl (grd_move rfl rfl) ?_ ?_
      · refine .inr ?_; simp
      refine GQ.take rfl rfl ?_ ?_
      · exact beq_iff_eq.2 (decide_eq_false (by assumption))
      refine GQ.r rfl rfl rfl rfl (grd_len tab_is rfl rfl rfl rfl rfl) ?_ ?_
      · refine .inr ?_; simp
      refine GQ.take rfl rfl ?_ ?_
      · exact beq_iff_eq.2 (decide_eq_false (by assumption))
      focus
        refine GQ.r rfl rfl rfl rfl (grd_str (b := ?_) (l := ?_) tab_is rfl rfl rfl rfl rfl rfl rfl rfl ?_ ?_ ?_) ?_ ?_
        rotate_left 2
        · assumption
        · assumption
        · assumption
        · refine .inr ?_; simp
      refine GQ.take rfl rfl ?_ ?_
      · exact beq_iff_eq.2 (decide_eq_false (by assumption))
      refine GQ.r rfl rfl rfl rfl (grd_sub64 rfl rfl rfl ?_) ?_ ?_
      · omega
      · refine .inr ?_; simp
      refine GQ.take rfl rfl ?_ ?_
      · exact beq_iff_eq.2 (decide_eq_false (by assumption))
      focus
        refine GQ.r rfl rfl rfl rfl (grd_slL (l := ?_) (h := ?_) (o2 := ?_) (m2 := ?_) (b := ?_) tab_is rfl rfl rfl rfl ?_ ?_ ?_ ?_ ?_ ?_ ?_ ?_) ?_ ?_
        rotate_left 5
        · assumption
        · rfl
        · exact rfl
        · refine gbound_tmp rfl ?_; refine Eq.trans (Int.toNat_of_nonneg ?_).symm ?_; rotate_left 1; rfl; omega
        · omega
        · omega
        · simp; rfl
        · simp; rfl
        · refine .inr ?_; simp
      refine GQ.nil ?_
      focus
        refine GPcs.write true [j] rfl rfl ?_ rfl rfl (gopf_call rfl Tryd.call29 rfl ?_ (g_rseal2 _ _ _ _ ?_ ?_ ?_)) rfl ?_ ?_ ?_ ?_
        · exact beq_iff_eq.2 (decide_eq_false (by assumption))
        · intro _ h; cases h; done
        rotate_left 1
        focus
          · refine bs_subE (l := 0) (by assumption) rfl (by omega) ?_; rfl
        · omega
        · intro _ h; cases h; done
        focus
          refine List.forall_mem_cons.2 ⟨⟨⟨?_, ?_⟩, ?_⟩, ?_⟩
          rotate_left 1
          · assumption
          · intro h; cases h; done
          · intro _ h; cases h; done
        · simp; done
      rintro _ Hxb5 ⟨pb2, cb3, rfl, sb4, xb5⟩
      have xb5l := HExt.len xb5; try simp at xb5l
      refine ⟨?_, ?_⟩
      · simp; omega
      refine GPcs.reads (by simp only [List.filterMap_cons, List.filterMap_nil, List.getElem?_toArray, List.getElem?_cons_succ, List.getElem?_cons_zero]; rfl) ?_
      refine GQ.take rfl rfl ?_ ?_
      · exact beq_iff_eq.2 (decide_eq_false (by assumption))
      focus
        refine GQ.re rfl rfl rfl rfl (grd_strBS (L := ?_) tab_is rfl rfl rfl rfl rfl rfl rfl rfl ?_) rfl ?_
        rotate_left 1
        · assumption
      refine GQ.take rfl rfl ?_ ?_
      · exact beq_iff_eq.2 (decide_eq_false (by assumption))
      refine GQ.r rfl rfl rfl rfl (grd_sneq' rfl rfl rfl) ?_ ?_
      · exact .inl rfl
      refine GQ.r rfl rfl rfl rfl (grd_pick_f rfl rfl ?_ rfl) ?_ ?_
      · exact decide_eq_false (by assumption)
      · exact .inl rfl
      refine GQ.nil ?_
      refine GPcs.nil ?_
      refine GWP.cond rfl (fun b6 => ?_) (fun b6 => ?_)
      simp only [beq_true, beq_false, Bool.not_true, Bool.not_false, Bool.not_eq_true', Bool.not_eq_false', decide_eq_true_eq, decide_eq_false_iff_not] at b6
      refine GWP.seq ?_
      refine GWP.region ?_
      refine GOps.r rfl rfl rfl rfl (grd_assign rfl rfl) ?_
      refine GOps.r rfl rfl rfl rfl (grd_assign rfl rfl) ?_
      refine GOps.nil ?_
      refine GWP.ret ?_
      refine ⟨_, .two (.one rfl) (.one rfl), ?_⟩
      refine ⟨?_, ?_⟩
      rotate_left 1
      · assumption
      simp only [beq_true, beq_false, Bool.not_true, Bool.not_false, Bool.not_eq_true', Bool.not_eq_false', decide_eq_true_eq, decide_eq_false_iff_not] at b6
      refine GWP.skip ?_
      refine GWP.seq ?_
      refine GWP.region ?_
      refine GOps.r rfl rfl rfl rfl (grd_move rfl rfl) ?_
      refine GOps.r rfl rfl rfl rfl (grd_move rfl rfl) ?_
      refine GOps.r rfl rfl rfl rfl (grd_len tab_is rfl rfl rfl rfl rfl) ?_
      refine GOps.r rfl rfl rfl rfl (grd_sub64 rfl rfl rfl ?_) ?_
      · omega
      focus
        refine GOps.r rfl rfl rfl rfl (grd_slL (l := ?_) (h := ?_) (o2 := ?_) (m2 := ?_) (b := ?_) tab_is rfl rfl rfl rfl ?_ ?_ ?_ ?_ ?_ ?_ ?_ ?_) ?_
        rotate_left 5
        refine (HExt.eq (by assumption) _ ?_ ?_).trans ?_
        · omega
        · intro h; cases h; done
        · assumption
        · rfl
        · exact rfl
        · refine gbound_tmp rfl ?_; refine Eq.trans (Int.toNat_of_nonneg ?_).symm ?_; rotate_left 1; rfl; omega
        · omega
        · omega
        · simp; rfl
        · simp; rfl
      refine GOps.r rfl rfl rfl rfl (grd_assign rfl rfl) ?_
      refine GOps.r rfl rfl rfl rfl (grd_assign rfl rfl) ?_
      refine GOps.nil ?_
      refine GWP.ret ?_
      refine ⟨_, .two (.one rfl) (.one rfl), ?_⟩
      refine ⟨?_, ?_⟩
      rotate_left 1
      · assumption
      simp only [beq_true, beq_false, Bool.not_true, Bool.not_false, Bool.not_eq_true', Bool.not_eq_false', decide_eq_true_eq, decide_eq_false_iff_not] at b1
      refine GQ.no rfl ?_ rfl rfl ?_
      · exact beq_eq_false_iff_ne.2 (by rw [decide_eq_true (by assumption)]; decide)
      refine GQ.no rfl ?_ rfl rfl ?_
      · exact beq_eq_false_iff_ne.2 (by rw [decide_eq_true (by assumption)]; decide)
      refine GQ.no rfl ?_ rfl rfl ?_
      · exact beq_eq_false_iff_ne.2 (by rw [decide_eq_true (by assumption)]; decide)
      refine GQ.no rfl ?_ rfl rfl ?_
      · exact beq_eq_false_iff_ne.2 (by rw [decide_eq_true (by assumption)]; decide)
      refine GQ.no rfl ?_ rfl rfl ?_
      · exact beq_eq_false_iff_ne.2 (by rw [decide_eq_true (by assumption)]; decide)
      refine GQ.no rfl ?_ rfl rfl ?_
      · exact beq_eq_false_iff_ne.2 (by rw [decide_eq_true (by assumption)]; decide)
      refine GQ.no rfl ?_ rfl rfl ?_
      · exact beq_eq_false_iff_ne.2 (by rw [decide_eq_true (by assumption)]; decide)
      refine GQ.nil ?_
      refine GPcs.no rfl rfl ?_ rfl rfl ?_
      · exact beq_eq_false_iff_ne.2 (by rw [decide_eq_true (by assumption)]; decide)
      refine GPcs.reads (by simp only [List.filterMap_cons, List.filterMap_nil, List.getElem?_toArray, List.getElem?_cons_succ, List.getElem?_cons_zero]; rfl) ?_
      refine GQ.no rfl ?_ rfl rfl ?_
      · exact beq_eq_false_iff_ne.2 (by rw [decide_eq_true (by assumption)]; decide)
      refine GQ.no rfl ?_ rfl rfl ?_
      · exact beq_eq_false_iff_ne.2 (by rw [decide_eq_true (by assumption)]; decide)
      refine GQ.r rfl rfl rfl rfl (grd_pick_t rfl rfl ?_ rfl) ?_ ?_
      · exact decide_eq_true (by assumption)
      · refine .inr ?_; simp
      refine GQ.nil ?_
      refine GPcs.nil ?_
      refine GWP.cond_t rfl ?_ ?_
      · with_reducible rfl
      refine GWP.seq ?_
      refine GWP.region ?_
      refine GOps.r rfl rfl rfl rfl (grd_assign rfl rfl) ?_
      refine GOps.r rfl rfl rfl rfl (grd_assign rfl rfl) ?_
      refine GOps.nil ?_
      refine GWP.ret ?_
      refine ⟨_, .two (.one rfl) (.one rfl), ?_⟩
      refine ⟨?_, ?_⟩
      · exact ⟨none, 0, 0, by rw [open_none (by omega)]; rfl, by rw [open_none (by omega)]; exact .none⟩
      · exact HExt.refl _ _
    · have ht : ((n : Int) - 4).toNat = L.length - 4 := by omega
      rw [ht, List.drop_zero] at b6
      have ho : openL L = none := if_neg fun e => b6 e.2
      rw [ho]
      exact ⟨_, _, _, rfl, .none⟩
    · have ht : ((n : Int) - 4).toNat = L.length - 4 := by omega
      rw [ht, List.drop_zero] at b6
      have ho : openL L = some (L.take (L.length - 4)) := if_pos ⟨by omega, Classical.not_not.1 b6⟩
      rw [ho, ht]
      exact ⟨_, _, _, rfl, bs_subE (l := 0) (hbs.ext xb5) rfl (by omega) rfl⟩
end Go.Proofs.YtjoblmdfbddkeaaDoor

/- Readers beside other blocks. -/
namespace Go.Proofs.YtjoblmdfbddkeaaDoor
open Go.RowKit

theorem bs_pushed {H : Hp} {b : Blk} {v : Value} {L : List UInt8} (h : BS H v L) : BS (H.push b) v L := h.ext (HExt.refl _ _).push
theorem bs_low {H H1 : Hp} {j : Nat} {b : Blk} {v : Value} {L : List UInt8} (q1 : BS H1 v L) (q : BS H v L) (hj : H.length ≤ j) : BS (H1.put j b) v L := by
  cases q with
  | none => exact .none
  | some hb _ _ _ _ =>
    have hlt := Hp.at_lt hb
    cases q1 with
    | some hb1 hs hl ho hu => exact .some ((Hp.at_put_ne (by omega)).trans hb1) hs hl ho hu
theorem rg_off {T : TypeId} {H : Hp} {g j : Nat} {p : Option Addr} {c : Nat} {s : RdS} (h : RG T H g p c s) (hj : H.at j = none) (b : Blk) : RG T (H.put j b) g p c s := ⟨(Hp.at_put_ne (by rintro rfl; rw [h.hg] at hj; cases hj)).trans h.hg, bs_off h.hb hj b, h.hl⟩
theorem rg_kill {H : Hp} {T : TypeId} {g j : Nat} {p : Option Addr} {c : Nat} {s : RdS} (h : RG T H g p c s) (hne : j ≠ g) (hp : ∀ a, p = some a → a.block ≠ j) : RG T (H.kill j) g p c s := ⟨(Hp.at_kill_ne hne).trans h.hg, bs_unk h.hb hp, h.hl⟩
theorem bsk_low {H H1 : Hp} {j : Nat} {b : Blk} (h : BSk H H1) (hj : H.length ≤ j) : BSk H (H1.put j b) := fun v L q => bs_low (h v L q) q hj
theorem bsk_no {H H1 : Hp} {j : Nat} {b b' : Blk} (h : BSk H H1) (hb : H1.at j = some b) (hno : allU8 b.cs = false) : BSk H (H1.put j b') := fun v L q => bs_put hb hno (h v L q)
theorem bsk_push {H H1 : Hp} {b : Blk} (h : BSk H H1) : BSk H (H1.push b) := h.trans (.of (HExt.refl _ _).push)
theorem bsk_tail {H H1 H2 : Hp} (h : BSk H H1) (k : HExt [] H1 H2) : BSk H H2 := h.trans (.of k)
set_option maxHeartbeats 4000000 in
set_option maxRecDepth 100000 in
set_option linter.unusedSimpArgs false in
theorem g_cloneF (H : Hp) (p : Option Addr) (n c : Nat) (L : List UInt8) (hb : BS H (.slice p n c) L) (hn : n ≤ 140737488355328) : GCalls Tryd.prog 31 [.slice p n c] [] H fun v H' => (∃ p' n' c', v = .slice p' n' c' ∧ BS H' (.slice p' n' c') L ∧ ∀ a, p' = some a → H.length ≤ a.block) ∧ HExt [] H H' := by
  have hl := hb.len
  rcases Nat.eq_zero_or_pos n with h0 | h0
  · subst h0
    obtain rfl : L = [] := List.eq_nil_of_length_eq_zero hl
    refine GCalls.body tab_is Tryd.func31 rfl Tryd.results31 Tryd.ntmps31 (by simp) ?_ ?_
    · first | (intro _ h; cases h; done) | (simp; done) | (simp; omega) | (intro i hi; simp at hi; rcases hi with rfl | rfl <;> omega) | (intro i hi; simp at hi; rcases hi with rfl | rfl | rfl <;> omega)
    focus
      refine GWP.seq ?_
      refine GWP.region ?_
      refine GOps.r rfl rfl rfl rfl (grd_assign rfl rfl) ?_
      refine GOps.nil ?_
      refine GWP.seq ?_
      refine GWP.seq ?_
      refine GWP.region ?_
      refine GOps.r rfl rfl rfl rfl (grd_move rfl rfl) ?_
      refine GOps.r rfl rfl rfl rfl (grd_sleql tab_is rfl rfl rfl rfl rfl) ?_
      refine GOps.nil ?_
      refine GWP.cond rfl (fun i1 => ?_) (fun i1 => ?_)
      simp at i1
      refine GWP.seq ?_
      refine GWP.region ?_
      refine GOps.r rfl rfl rfl rfl (grd_assign rfl rfl) ?_
      refine GOps.nil ?_
      refine GWP.ret ?_
      refine ⟨_, .one rfl, ?_⟩
      refine ⟨?_, ?_⟩
      · exact ⟨_, _, _, rfl, BS.none, fun _ h => by cases h⟩
      · exact HExt.refl _ _
      simp at i1
      refine GWP.skip ?_
      refine GWP.seq ?_
      refine GWP.region ?_
      focus
        refine GOps.w1 rfl rfl rfl rfl (gop_lit (id := ?_) (cs := ?_) ?_ tab_is rfl rfl rfl ?_ ?_ rfl ?_ ?_) ?_
        rotate_left 2
        · rfl
        · decide
        · decide
        · simp [gfill, gsets, Value.cells]; rfl
        · rfl
      refine GOps.r rfl rfl rfl rfl (grd_move rfl rfl) ?_
      focus
        refine GOps.w1 rfl rfl rfl rfl (gop_zeroB (L := ?_) (M := ?_) tab_is rfl rfl rfl rfl ?_ ?_ (gsrc_bs rfl rfl rfl ?_) ?_ ?_ ?_) ?_
        rotate_left 2
        refine bs_emptyE (b := ?_) ?_ ?_ ?_ ?_ ?_
        rotate_left 1
        · exact Hp.at_push_eq
        · rfl
        · decide
        · rfl
        · rfl
        · omega
        focus
          refine BS.ext (by assumption) ?_
          refine HExt.push ?_
          · exact HExt.refl _ _
        · exact BS.len (by assumption)
        · decide
        · decide
      refine GOps.r rfl rfl rfl rfl (grd_assign rfl rfl) ?_
      refine GOps.nil ?_
      refine GWP.ret ?_
      refine ⟨_, .one rfl, ?_⟩
      refine ⟨?_, ?_⟩
      rotate_left 1
      refine HExt.push ?_
      · exact HExt.refl _ _
    exact ⟨_, _, _, rfl, bs_empty (b := ⟨_, 1, _, _⟩) Hp.at_push_eq rfl (Nat.zero_le _) rfl, fun a h => by injection h with h; subst h; exact Nat.le_refl _⟩
  ·
    refine GCalls.body tab_is Tryd.func31 rfl Tryd.results31 Tryd.ntmps31 (by simp) ?_ ?_
    · first | (intro _ h; cases h; done) | (simp; done) | (simp; omega) | (intro i hi; simp at hi; rcases hi with rfl | rfl <;> omega) | (intro i hi; simp at hi; rcases hi with rfl | rfl | rfl <;> omega)
    focus
      refine GWP.seq ?_
      refine GWP.region ?_
      refine GOps.r rfl rfl rfl rfl (grd_assign rfl rfl) ?_
      refine GOps.nil ?_
      refine GWP.seq ?_
      refine GWP.seq ?_
      refine GWP.region ?_
      refine GOps.r rfl rfl rfl rfl (grd_move rfl rfl) ?_
      refine GOps.r rfl rfl rfl rfl (grd_sleql tab_is rfl rfl rfl rfl rfl) ?_
      refine GOps.nil ?_
      refine GWP.cond rfl (fun j1 => ?_) (fun j1 => ?_)
      simp at j1
      refine GWP.seq ?_
      refine GWP.region ?_
      refine GOps.r rfl rfl rfl rfl (grd_assign rfl rfl) ?_
      refine GOps.nil ?_
      refine GWP.ret ?_
      refine ⟨_, .one rfl, ?_⟩
      refine ⟨?_, ?_⟩
      rotate_left 1
      · exact HExt.refl _ _
      simp at j1
      refine GWP.skip ?_
      refine GWP.seq ?_
      refine GWP.region ?_
      focus
        refine GOps.w1 rfl rfl rfl rfl (gop_lit (id := ?_) (cs := ?_) ?_ tab_is rfl rfl rfl ?_ ?_ rfl ?_ ?_) ?_
        rotate_left 2
        · rfl
        · decide
        · decide
        · simp [gfill, gsets, Value.cells]; rfl
        · rfl
      refine GOps.r rfl rfl rfl rfl (grd_move rfl rfl) ?_
      focus
        refine GOps.w1 rfl rfl rfl rfl (gop_fullB (id := ?_) (L := ?_) (M := ?_) (K := ?_) ?_ tab_is rfl rfl rfl rfl ?_ ?_ ?_ (gsrc_bs rfl rfl rfl ?_) ?_ ?_ ?_ ?_) ?_
        rotate_left 4
        · simp; rfl
        refine bs_emptyE (b := ?_) ?_ ?_ ?_ ?_ ?_
        rotate_left 1
        · exact Hp.at_push_eq
        · rfl
        · decide
        · rfl
        · rfl
        · decide
        · omega
        focus
          refine BS.ext (by assumption) ?_
          refine HExt.push ?_
          · exact HExt.refl _ _
        · exact BS.len (by assumption)
        · simp only [List.nil_append]; rfl
        · omega
        · omega
      refine GOps.r rfl rfl rfl rfl (grd_assign rfl rfl) ?_
      refine GOps.nil ?_
      refine GWP.ret ?_
      refine ⟨_, .one rfl, ?_⟩
      refine ⟨?_, ?_⟩
      rotate_left 1
      refine HExt.push ?_
      refine HExt.push ?_
      · exact HExt.refl _ _
    · subst j1
      cases hb
      omega
    · exact ⟨_, _, _, rfl, bs_push (by simp) (by omega), fun a h => by injection h with h; subst h; exact Nat.le_succ _⟩
set_option maxHeartbeats 4000000 in
set_option maxRecDepth 100000 in
set_option linter.unusedSimpArgs false in
theorem g_vopenF (H : Hp) (p : Option Addr) (n c : Nat) (L : List UInt8) (hb : BS H (.slice p n c) L) (hn : n ≤ 140737488355328) : GCalls Tryd.prog 16 [.slice p n c] [] H fun v H' => (∃ g p' c', v = .pointer (some ⟨g, 0, none⟩) ∧ H.length ≤ g ∧ RG 58 H' g p' c' ⟨L, 0⟩ ∧ ∀ a, p' = some a → H.length ≤ a.block) ∧ HExt [] H H' := by
  have hl := hb.len
  refine GCalls.body tab_is Tryd.func16 rfl Tryd.results16 Tryd.ntmps16 (by simp) ?_ ?_
  · first | (intro _ h; cases h; done) | (simp; done) | (simp; omega) | (intro i hi; simp at hi; rcases hi with rfl | rfl <;> omega) | (intro i hi; simp at hi; rcases hi with rfl | rfl | rfl <;> omega)
  focus
    refine GWP.seq ?_
    refine GWP.region ?_
    refine GOps.r rfl rfl rfl rfl (grd_assign rfl rfl) ?_
    refine GOps.nil ?_
    refine GWP.seq ?_
    refine GWP.region ?_
    refine GOps.r rfl rfl rfl rfl (grd_move rfl rfl) ?_
    focus
      refine GOps.w rfl rfl rfl rfl (gop_call rfl Tryd.call31 rfl ?_ (g_cloneF _ _ _ _ ?_ ?_ ?_)) ?_
      · intro _ h; cases h; done
      rotate_left 1
      · assumption
      · omega
    rintro _ Hxk6 ⟨⟨pk1, nk2, ck3, rfl, bk4, fk5⟩, xk6⟩
    have xk6l := HExt.len xk6; try simp at xk6l
    focus
      refine GOps.r rfl rfl rfl rfl (grd_build (cs := ?_) tab_is rfl rfl rfl ?_ rfl ?_) ?_
      rotate_left 1
      · decide
      · simp [gfill, gsets, Value.cells]; rfl
    focus
      refine GOps.w1 rfl rfl rfl rfl (gop_box' (id := ?_) ?_ rfl rfl rfl) ?_
      rotate_left 1
      · rfl
    refine GOps.r rfl rfl rfl rfl (grd_assign rfl rfl) ?_
    refine GOps.nil ?_
    refine GWP.ret ?_
    refine ⟨_, .one rfl, ?_⟩
    refine ⟨?_, ?_⟩
    rotate_left 1
    refine HExt.push ?_
    · assumption
  have e := bk4.len
  subst e
  exact ⟨_, pk1, ck3, rfl, by simpa using xk6l, ⟨Hp.at_push_eq, bk4.ext (HExt.refl _ _).push, by simp only; omega⟩, fk5⟩
end Go.Proofs.YtjoblmdfbddkeaaDoor

/- Regions that draw their order, in which a new block may be made early. Over any program. -/
namespace Go.Proofs.YtjoblmdfbddkeaaDoor
open Go.RowKit

/-- The order: number i makes a block (slot d), and waits for nothing; it may come up early. -/
def okA (ops : Array Oper) (i d : Nat) : List Seg → Array Bool → Array Bool → Bool
  | [], _, _ => false
  | .reads l :: rest, ln, ld => (l.all fun k => ((ops[k]?).map fun o => o.dst != some d).getD true) && match okReads .any ops l ln, okReads .any ops l ld with
    | some a, some b => okA ops i d rest a b
    | _, _ => false
  | .write m :: rest, ln, ld => bif m == i then (Region.ready .any ops ln == [i]) && okSegs .any ops rest (ln.setIfInBounds i true) && okSegs .any ops rest ld
    else ((Region.ready .any ops ln == [m, i]) || (Region.ready .any ops ln == [i, m])) && (Region.ready .any ops ld == [m]) && (ln.setIfInBounds i true == ld) && okA ops i d rest (ln.setIfInBounds m true) (ld.setIfInBounds m true)
theorem okA_pos {ops : Array Oper} {i d : Nat} : ∀ {segs : List Seg} {ln ld : Array Bool}, okA ops i d segs ln ld = true → 1 ≤ segLen segs
  | [], _, _, h => by cases h
  | .reads l :: rest, ln, ld, h => by
    simp only [okA, Bool.and_eq_true] at h
    have h2 := h.2
    split at h2
    · have := okA_pos h2
      simp only [segLen]
      omega
    · cases h2
  | .write m :: rest, _, _, _ => by simp only [segLen]; omega
/-- The cells of a new block. -/
def zeroOf (T : Tab) (e : Nat) : List Value := match T e with
  | some i => i.zero
  | none => []
theorem prt_succ {l : List Nat} {n : Nat} (h : ∀ j ∈ l, j < n) : ∀ j ∈ l, j < n + 1 := fun j hj => Nat.lt_succ_of_lt (h j hj)
/-- A block that was made early. -/
structure Pend (w0 : World) (μ : Ren) (a : Act) (w : World) (d e g : Nat) (z : List Value) : Prop where
  cells : w.heap[g]? = some (.cells z.toArray e (0, 0))
  low : w0.heap.size ≤ g
  far : ∀ j L, μ j = some L → L.g ≠ g
  tmp : a.tmps[d]? = some (.pointer (some ⟨g, 0, none⟩))
/-- The pieces of such a region, walked. -/
def GPA (P : Program) (N : Nat) (C : Ctx) (ops : Array Oper) (Q : Exit → Env → Hp → Prop) (i d e : Nat) (z : List Value) (Prt : List Nat) (segs : List Seg) (env : Env) (H : Hp) : Prop :=
  ∀ ln ld, okA ops i d segs ln ld = true → ∀ w0 Fr μ0 μ a w, Sim C w0 Fr μ0 μ H w → ER μ N env a → (∀ j ∈ Prt, j < H.length) →
    wpAnyH P .any ops (NoPanic (GPost N C w0 Fr μ0 Q)) (Cl μ Prt w) (segLen segs) ln a w ∧
    ∀ g, Pend w0 μ a w d e g z → wpAnyH P .any ops (NoPanic (GPost N C w0 Fr μ0 Q)) (Cl μ Prt w) (segLen segs - 1) ld a w
section
variable {P : Program} {N : Nat} {C : Ctx} {Q : Exit → Env → Hp → Prop} {env : Env} {H : Hp} {ops : Array Oper} {i d e : Nat} {z : List Value} {Prt : List Nat} {segs : List Seg}
theorem quiet_keep {Cl : World → Prop} {K : Act → Prop} {x : Option Value} : ∀ (l : List Oper) (a : Act), a.tmps[d]? = x → (∀ o ∈ l, o.dst ≠ some d) → wpQuiet P ops Cl K l a → wpQuiet P ops Cl (fun a' => K a' ∧ a'.tmps[d]? = x) l a
  | [], _, hx, _, h => ⟨h, hx⟩
  | o :: l, a, hx, hd, h => by
    have hput : ∀ v, (a.put o.dst v).tmps[d]? = x := fun v => by
      have := hd o (List.mem_cons_self ..)
      cases ho : o.dst with
      | none => exact hx
      | some s =>
        rw [ho] at this
        simp only [Act.put]
        rw [Array.getElem?_setIfInBounds_ne (fun e => this (by rw [e]))]
        exact hx
    have hd' : ∀ o ∈ l, o.dst ≠ some d := fun o ho => hd o (List.mem_cons_of_mem _ ho)
    unfold wpQuiet at h ⊢
    split at h
    · rename_i hw
      rw [if_pos hw]
      obtain ⟨v, h1, h2⟩ := h
      exact ⟨v, h1, quiet_keep l _ (hput v) hd' h2⟩
    · rename_i hw
      rw [if_neg hw]
      exact quiet_keep l _ (hput _) hd' h
theorem GPA.reads {l : List Nat} {L : List Oper} (hsel : Region.noSelect ops = true) (hL : l.filterMap (ops[·]?) = L) (h : GQ P N C ops false Prt (fun env' => GPA P N C ops Q i d e z Prt segs env' H) L env H) : GPA P N C ops Q i d e z Prt (.reads l :: segs) env H := fun ln ld hok w0 Fr μ0 μ a w hs he hp => by
  subst hL
  simp only [okA, Bool.and_eq_true] at hok
  obtain ⟨hdst, hok⟩ := hok
  have hd : ∀ o ∈ l.filterMap (ops[·]?), o.dst ≠ some d := fun o ho => by
    obtain ⟨k, hk, ho⟩ := List.mem_filterMap.1 ho
    have := List.all_eq_true.1 hdst k hk
    rw [ho] at this
    simpa using this
  split at hok
  · rename_i la lb h1 h2
    have hpos := okA_pos hok
    refine ⟨?_, fun g hg => ?_⟩
    · exact reads_sound2 hsel (fun _ _ _ _ _ h => h) (segLen segs) w (fun _ _ _ _ => rfl) (fun a' hK => hK) l ln a h1 (h w0 Fr μ0 μ a w _ hs he fun env' a' he' hk => (hk la lb hok w0 Fr μ0 μ a' w hs he' hp).1)
    · have hq := quiet_keep (d := d) _ a hg.tmp hd (h w0 Fr μ0 μ a w (fun a' => a'.tmps[d]? = some (.pointer (some ⟨g, 0, none⟩)) → wpAnyH P .any ops (NoPanic (GPost N C w0 Fr μ0 Q)) (Cl μ Prt w) (segLen segs - 1) lb a' w) hs he fun env' a' he' hk ht => (hk la lb hok w0 Fr μ0 μ a' w hs he' hp).2 g ⟨hg.cells, hg.low, hg.far, ht⟩)
      have := reads_sound2 hsel (Q := NoPanic (GPost N C w0 Fr μ0 Q)) (K := fun a' => (a'.tmps[d]? = some (.pointer (some ⟨g, 0, none⟩)) → wpAnyH P .any ops (NoPanic (GPost N C w0 Fr μ0 Q)) (Cl μ Prt w) (segLen segs - 1) lb a' w) ∧ a'.tmps[d]? = some (.pointer (some ⟨g, 0, none⟩))) (fun _ _ _ _ _ h => h) (segLen segs - 1) w (fun _ _ _ _ => rfl) (fun a' hK => hK.1 hK.2) l ld a h2 hq
      have e1 : segLen (.reads l :: segs) - 1 = l.length + (segLen segs - 1) := by simp only [segLen]; omega
      rw [e1]
      exact this
  · cases hok
theorem er_pend {μ : Ren} {a : Act} (he : ER μ N env a) (hdn : env.get d = none) (v : Value) : ER μ N env (a.put (some d) v) := by
  refine ⟨by simp [Act.put, he.size], he.defers, fun s u hu => ?_⟩
  obtain ⟨v', h1, h2⟩ := he.val s u hu
  refine ⟨v', ?_, h2⟩
  simp only [Act.put]
  rw [Array.getElem?_setIfInBounds_ne (by rintro rfl; rw [hdn] at hu; cases hu)]
  exact h1
/-- What makes the block. -/
theorem alloc_run {T : Tab} {o : Oper} {ti : TyI} (hT : T.ok P) (ho : o.op = .alloc e) (ht : T e = some ti) (hz : ti.zero = z) (hz0 : z ≠ []) (a : Act) (w : World) : (execOp a.eval o).run P w = .ok (.value (.pointer (some ⟨w.heap.size, 0, none⟩))) (w.alloc (.cells z.toArray e)) := by
  subst hz
  obtain ⟨tj, q1, q2, q3, q4⟩ := Tab.size hT ht
  obtain ⟨zv, q5, q6, q7⟩ := q4 hz0
  have e1 : zv.cells = ti.zero.toArray := by rw [← q6]
  simp [execOp, ho, Instr.alloc, zeroValue, typeInfo, q1, q5, newVar, newRow, newObj, Sem.run, e1]
/-- The block comes up at last; or is there. -/
theorem GPA.commit {T : Tab} {o : Oper} {ti : TyI} {tl : Bool} (Prt2 : List Nat) (hsel : Region.noSelect ops = true) (ho : ops[i]? = some o) (hT : T.ok P) (hal : o.op = .alloc e) (hgd : o.guard = none) (hdst : o.dst = some d) (hN : Nat.blt d N = true) (ht : T e = some ti) (hz : ti.zero = z) (hz0 : z ≠ []) (h1 : z.all (·.oneCell') = true) (hpl : z.all plainB = true)
    (hP2 : ∀ j ∈ Prt, j ∈ Prt2) (hp2 : ∀ j ∈ Prt2, j < H.length + 1) (k : GPcs P N C ops Q tl Prt2 segs ((d, .pointer (some ⟨H.length, 0, none⟩)) :: env) (H.push ⟨e, 1, z, true⟩)) : GPA P N C ops Q i d e z Prt (.write i :: segs) env H := fun ln ld hok w0 Fr μ0 μ a w hs he hp => by
  simp only [okA, beq_self_eq_true, cond_true, Bool.and_eq_true, beq_iff_eq] at hok
  obtain ⟨⟨hrd, hok1⟩, hok2⟩ := hok
  have hw : Region.wanted o (yielded ops a.tmps) = true := by unfold Region.wanted; rw [hgd]
  have h1' : ∀ u ∈ z, u.oneCell' = true := fun u hu => List.all_eq_true.1 h1 u hu
  have hpl' : ∀ u ∈ z, plainB u = true := fun u hu => List.all_eq_true.1 hpl u hu
  have hdN : d < N := by rw [← Nat.blt_eq]; exact hN
  have hp2' : ∀ j ∈ Prt2, j < (H.push ⟨e, 1, z, true⟩).length := fun j hj => by rw [Hp.len_push]; exact hp2 j hj
  refine ⟨?_, fun g hg => ?_⟩
  · show wpAnyH P .any ops _ _ (1 + segLen segs) ln a w
    rw [Nat.add_comm]
    refine wpAnyH_all hrd (by simp) fun j hj => ?_
    obtain rfl : j = i := by simpa using hj
    unfold wpOp
    simp only [ho, hw, if_true]
    refine .inl ?_
    unfold Oper.wp
    rw [alloc_run hT hal ht hz hz0 a w]
    have hsn := hs.h.new ⟨e, 1, z, true⟩ z e (.plain hpl') h1'
    have hs' := hs.push hsn (hs.frm.alloc _) (.inr hs.frm.size)
    have he' := (he.mono (hs.h.fresh ⟨w.heap.size, 0, z.length, 1⟩)).put (d := d) hdN (.ptr (L := ⟨w.heap.size, 0, z.length, 1⟩) (o := 0) (Ren.upd_eq _ _ _))
    have hfar : ∀ q ∈ Prt, ∀ L, μ q = some L → (w.alloc (.cells z.toArray e)).heap[L.g]? = w.heap[L.g]? := fun q hq L hL => heap_alloc_old w _ (hs.h.len q L hL).2
    have hsub : ∀ x, Cl (μ.upd H.length ⟨w.heap.size, 0, z.length, 1⟩) Prt2 (w.alloc (.cells z.toArray e)) x → Cl μ Prt w x := fun x hx q hq L hL => (hx q (hP2 q hq) L (hs.h.fresh _ _ _ hL)).trans (hfar q hq L hL)
    have hsub2 : ∀ x, Cw tl (μ.upd H.length ⟨w.heap.size, 0, z.length, 1⟩) Prt2 (w.alloc (.cells z.toArray e)) x → Cl μ Prt w x := fun x hx => by
      cases tl with
      | true => obtain rfl : x = _ := hx; exact hfar
      | false => exact hsub x hx
    show Cl μ Prt w (w.alloc (.cells z.toArray e)) ∧ wpAnyH P .any ops (NoPanic (GPost N C w0 Fr μ0 Q)) (Cl μ Prt w) (segLen segs) (ln.setIfInBounds j true) (a.put o.dst (.pointer (some ⟨w.heap.size, 0, none⟩))) (w.alloc (.cells z.toArray e))
    rw [hdst]
    refine ⟨hfar, wpAny_mono hsub2 _ _ _ _ (pcs_sound (md := .any) hsel (fun _ _ _ _ _ h => h) segs _ _ _ _ hok1 (Cw.self _ _ _ _) (k w0 Fr μ0 _ _ _ hs' he' hp2'))⟩
  · have e1 : segLen (.write i :: segs) - 1 = segLen segs := by simp only [segLen]; omega
    rw [e1]
    have hsn := hs.h.add (Nat.le_refl _) ⟨e, 1, z, true⟩ ⟨g, 0, z.length, 1⟩ z.toArray e (0, 0) rfl hg.cells (.inl rfl) (by simp) (fun j v hv => ⟨v, by simpa using hv, VR.plain (hpl' v (List.mem_of_getElem? hv))⟩) h1' (fun q c M _ hM => ⟨hg.far q M hM, rfl⟩)
    have hs' := hs.push hsn hs.frm (.inr hg.low)
    have he' : ER (μ.upd H.length ⟨g, 0, z.length, 1⟩) N ((d, .pointer (some ⟨H.length, 0, none⟩)) :: env) a := by
      have hem := he.mono (hs.h.fresh ⟨g, 0, z.length, 1⟩)
      refine ⟨he.size, he.defers, fun s u hu => ?_⟩
      by_cases hds : d = s
      · subst hds
        rw [Env.get_cons_eq] at hu
        injection hu with hu
        subst hu
        exact ⟨_, hg.tmp, .ptr (L := ⟨g, 0, z.length, 1⟩) (o := 0) (Ren.upd_eq _ _ _)⟩
      · rw [Env.get_cons_ne _ _ hds] at hu
        exact hem.val s u hu
    have hsub2 : ∀ x, Cw tl (μ.upd H.length ⟨g, 0, z.length, 1⟩) Prt2 w x → Cl μ Prt w x := fun x hx => by
      cases tl with
      | true => obtain rfl : x = w := hx; exact fun _ _ _ _ => rfl
      | false => exact fun q hq L hL => hx q (hP2 q hq) L (hs.h.fresh _ _ _ hL)
    exact wpAny_mono hsub2 _ _ _ _ (pcs_sound (md := .any) hsel (fun _ _ _ _ _ h => h) segs _ _ _ _ hok2 (Cw.self _ _ _ _) (k w0 Fr μ0 _ _ _ hs' he' hp2'))
/-- A call comes up; the block may come up ahead of it. -/
theorem GPA.call {T : Tab} {o oi : Oper} {ti : TyI} {m d2 : Nat} {b : Bool} {f : FuncId} {xs : List Operand} {ts : Array TypeId} {vs : List Value} {F : List Nat} {R : Value → Hp → Prop} (hmi : (m == i) = false) (ho : ops[m]? = some o) (hoi : ops[i]? = some oi) (hT : T.ok P) (hal : oi.op = .alloc e) (hgi : oi.guard = none) (hdi : oi.dst = some d) (ht : T e = some ti) (hz : ti.zero = z) (hz0 : z ≠ []) (hdn : env.get d = none) (hdN : Nat.blt d N = true)
    (hw : gwant ops env o = some b) (hd2 : o.dst = some d2) (hdd : (d2 == d) = false) (hN : Nat.blt d2 N = true) (hco : o.op = .call { callee := .value (.func f), args := xs.toArray, argTypes := ts }) (hcall : ∀ (args : Array Value) (w : World), (callFunc f args).run P w = .ok (.enter f args) w) (hx : gargs env xs = some vs)
    (hb : b = true) (hm : ∀ i ∈ F, C.may i) (h : GCalls P f vs F H R) (hF : ∀ j ∈ F, ∃ c, H.at j = some c ∧ c.rw = true) (hP : ∀ j ∈ Prt, (∃ c, H.at j = some c) ∧ j ∉ F)
    (k : ∀ v H', R v H' → ∃ Prt2 : List Nat, (∀ j ∈ Prt, j ∈ Prt2) ∧ (∀ j ∈ Prt2, j < H'.length) ∧ GPA P N C ops Q i d e z Prt2 segs ((d2, v) :: env) H') : GPA P N C ops Q i d e z Prt (.write m :: segs) env H := fun ln ld hok => by
  subst hb
  simp only [okA, hmi, cond_false, Bool.and_eq_true, Bool.or_eq_true, beq_iff_eq] at hok
  obtain ⟨⟨⟨hrn, hrd⟩, heq⟩, hok⟩ := hok
  have hpos := okA_pos hok
  have hd2N : d2 < N := by rw [← Nat.blt_eq]; exact hN
  have hne : d2 ≠ d := fun e => by subst e; simp at hdd
  have core : ∀ w0 Fr μ0 μ a w, Sim C w0 Fr μ0 μ H w → ER μ N env a → ∀ (K : Act → World → Prop), (∀ v rv H' w' μ', R v H' → Sim C w0 Fr μ0 μ' H' w' → Ext' μ μ' → VR μ' v rv → Frm w w' (img μ F) → (∀ j L, H.length ≤ j → μ' j = some L → L.g ∈ img μ F ∨ w.heap.size ≤ L.g) → (∀ j L, j < H.length → μ' j = some L → μ j = some L) → K (a.put o.dst rv) w') → wpOp P ops (NoPanic (GPost N C w0 Fr μ0 Q)) m K a w := fun w0 Fr μ0 μ a w hs he K hk => by
    unfold wpOp
    simp only [ho]
    rw [if_pos (gwant_real he hw)]
    refine .inl ?_
    have hr := gargs_real he hx
    have hrun : (execOp a.eval o).run P w = .ok (.enter f (xs.map a.eval).toArray) w := by
      simp [execOp, hco, resolve, Deferred.ofValue, Act.eval, invoke, hcall]
    unfold Oper.wp
    rw [hrun]
    show Calls P f _ w _
    refine (h μ w (xs.map a.eval).toArray hs.h (by simpa using hr)).mono ?_
    rintro e w' ⟨v, rv, H', μ', rfl, q2, q3, q4, q5, q6, q7, q8, q9⟩
    exact hk v rv H' w' μ' q2 (hs.called hm q4 q5 q6 q7 q8 q9) q5 q3 q6 q7 q9
  have hfar : ∀ μ w w', (∀ j L, μ j = some L → L.g < w.heap.size) → SimH μ H w → Frm w w' (img μ F) → ∀ j ∈ Prt, ∀ L, μ j = some L → w'.heap[L.g]? = w.heap[L.g]? := fun μ w w' hl hs hfr j hj L hL => by
    obtain ⟨⟨c, hc⟩, hjF⟩ := hP j hj
    refine hfr.block _ (hl j L hL) fun hm => ?_
    obtain ⟨q, M, q1, q2, q3⟩ := img_mem hm
    obtain ⟨c', hc', hrw⟩ := hF q q1
    have := hs.inj q j c' c M L hc' hc q2 hL q3 (.inl hrw)
    subst this
    exact hjF q1
  have hD : ∀ w0 Fr μ0 μ a w g, Sim C w0 Fr μ0 μ H w → ER μ N env a → Pend w0 μ a w d e g z → wpAnyH P .any ops (NoPanic (GPost N C w0 Fr μ0 Q)) (Cl μ Prt w) (segLen segs) ld a w := fun w0 Fr μ0 μ a w g hs he hg => by
    obtain ⟨n, hn⟩ : ∃ n, segLen segs = n + 1 := ⟨segLen segs - 1, by omega⟩
    rw [hn]
    refine wpAnyH_all hrd (by simp) fun j hj => ?_
    obtain rfl : j = m := by simpa using hj
    refine core w0 Fr μ0 μ a w hs he _ fun v rv H' w' μ' hR hs' hxt hv hfr hnew hbk => ?_
    obtain ⟨Prt2, hP2, k1, k2⟩ := k v H' hR
    have hf := hfar μ w w' (fun j L hL => (hs.h.len j L hL).2) hs.h hfr
    have hgl : g < w.heap.size := by
      rcases Nat.lt_or_ge g w.heap.size with h1 | h1
      · exact h1
      · have := hg.cells
        rw [Array.getElem?_eq_none h1] at this
        cases this
    have hgi : g ∉ img μ F := fun hm => by
      obtain ⟨q, M, _, q2, q3⟩ := img_mem hm
      exact hg.far q M q2 q3
    have hER := (he.mono hxt).put (d := d2) hd2N hv
    rw [← hd2] at hER
    have hg' : Pend w0 μ' (a.put o.dst rv) w' d e g z := ⟨(hfr.block g hgl hgi).trans hg.cells, hg.low, fun q L hL => by
      rcases Nat.lt_or_ge q H.length with h1 | h1
      · exact hg.far q L (hbk q L h1 hL)
      · rcases hnew q L h1 hL with h2 | h2
        · intro e; exact hgi (e ▸ h2)
        · omega, by
      rw [hd2]
      simp only [Act.put]
      rw [Array.getElem?_setIfInBounds_ne hne]
      exact hg.tmp⟩
    refine ⟨hf, ?_⟩
    have := (k2 _ _ hok w0 Fr μ0 μ' (a.put o.dst rv) w' hs' hER k1).2 g hg'
    rw [hn, Nat.add_sub_cancel] at this
    exact wpAny_mono (fun x hx q hq L hL => (hx q (hP2 q hq) L (hxt q L hL)).trans (hf q hq L hL)) _ _ _ _ this
  intro w0 Fr μ0 μ a w hs he hp
  have e1 : segLen (.write m :: segs) - 1 = segLen segs := by simp only [segLen]; omega
  refine ⟨?_, fun g hg => by rw [e1]; exact hD w0 Fr μ0 μ a w g hs he hg⟩
  show wpAnyH P .any ops _ _ (1 + segLen segs) ln a w
  rw [Nat.add_comm]
  have hM : wpOp P ops (NoPanic (GPost N C w0 Fr μ0 Q)) m (fun a' w' => Cl μ Prt w w' ∧ wpAnyH P .any ops (NoPanic (GPost N C w0 Fr μ0 Q)) (Cl μ Prt w) (segLen segs) (ln.setIfInBounds m true) a' w') a w := by
    refine core w0 Fr μ0 μ a w hs he _ fun v rv H' w' μ' hR hs' hxt hv hfr hnew hbk => ?_
    obtain ⟨Prt2, hP2, k1, k2⟩ := k v H' hR
    have hf := hfar μ w w' (fun j L hL => (hs.h.len j L hL).2) hs.h hfr
    have hER := (he.mono hxt).put (d := d2) hd2N hv
    rw [← hd2] at hER
    have := (k2 _ _ hok w0 Fr μ0 μ' (a.put o.dst rv) w' hs' hER k1).1
    exact ⟨hf, wpAny_mono (fun x hx q hq L hL => (hx q (hP2 q hq) L (hxt q L hL)).trans (hf q hq L hL)) _ _ _ _ this⟩
  have hI : wpOp P ops (NoPanic (GPost N C w0 Fr μ0 Q)) i (fun a' w' => Cl μ Prt w w' ∧ wpAnyH P .any ops (NoPanic (GPost N C w0 Fr μ0 Q)) (Cl μ Prt w) (segLen segs) (ln.setIfInBounds i true) a' w') a w := by
    have hwi : Region.wanted oi (yielded ops a.tmps) = true := by unfold Region.wanted; rw [hgi]
    unfold wpOp
    simp only [hoi, hwi, if_true]
    refine .inl ?_
    unfold Oper.wp
    rw [alloc_run hT hal ht hz hz0 a w]
    have hfa : ∀ q ∈ Prt, ∀ L, μ q = some L → (w.alloc (.cells z.toArray e)).heap[L.g]? = w.heap[L.g]? := fun q hq L hL => heap_alloc_old w _ (hs.h.len q L hL).2
    show Cl μ Prt w (w.alloc (.cells z.toArray e)) ∧ wpAnyH P .any ops (NoPanic (GPost N C w0 Fr μ0 Q)) (Cl μ Prt w) (segLen segs) (ln.setIfInBounds i true) (a.put oi.dst (.pointer (some ⟨w.heap.size, 0, none⟩))) (w.alloc (.cells z.toArray e))
    rw [hdi, heq]
    have hsz : ∀ t, a.tmps[d]? = t → d < N → (a.put (some d) (.pointer (some ⟨w.heap.size, 0, none⟩))).tmps[d]? = some (.pointer (some ⟨w.heap.size, 0, none⟩)) := fun _ _ hdN => by simp [Act.put, he.size, hdN]
    have hbel : Below w.heap.size w (w.alloc (.cells z.toArray e)) := (Below.refl _ _).alloc (Nat.le_refl _) _
    have hs' : Sim C w0 Fr μ0 μ H (w.alloc (.cells z.toArray e)) := ⟨hs.h.below hbel, hs.ext, hs.frm.alloc _, hs.old, hs.new, hs.len, hs.back⟩
    have hdN : d < N := by rw [← Nat.blt_eq]; exact hdN
    refine ⟨hfa, wpAny_mono (fun x hx q hq L hL => (hx q hq L hL).trans (hfa q hq L hL)) _ _ _ _ (hD w0 Fr μ0 μ _ _ w.heap.size hs' (er_pend he hdn _) ⟨heap_alloc_new w _, hs.frm.size, fun q L hL => by have := (hs.h.len q L hL).2; omega, hsz _ rfl hdN⟩)⟩
  rcases hrn with hrn | hrn
  · refine wpAnyH_all hrn (by simp) fun j hj => ?_
    simp only [List.mem_cons, List.not_mem_nil, or_false] at hj
    rcases hj with rfl | rfl
    · exact hM
    · exact hI
  · refine wpAnyH_all hrn (by simp) fun j hj => ?_
    simp only [List.mem_cons, List.not_mem_nil, or_false] at hj
    rcases hj with rfl | rfl
    · exact hI
    · exact hM
theorem GWP.drawA {id : Nat} {l : List Oper} (i d e : Nat) (z : List Value) (segs : List Seg) (Prt : List Nat) (hm : P.follows .mixedOrders = true) (hlen : segLen segs = l.toArray.size) (hok : okA l.toArray i d segs (Array.replicate l.toArray.size false) ((Array.replicate l.toArray.size false).setIfInBounds i true) = true)
    (hp : ∀ j ∈ Prt, j < H.length) (h : GPA P N C l.toArray Q i d e z Prt segs env H) : GWP P N C (.region id l.toArray true) Q env H := fun w0 Fr μ0 μ a w hs' he => by
  have hs2 : Sim C w0 Fr μ0 μ H w.drew := ⟨hs'.h.drew, hs'.ext, hs'.frm.drew, hs'.old, hs'.new, hs'.len, hs'.back⟩
  refine wp_region_noPanic (wp_region_held (S := Cl μ Prt w.drew) hm ?_)
  have := (h _ _ hok w0 Fr μ0 μ a w.drew hs2 he hp).1
  rw [hlen] at this
  exact this
end
end Go.Proofs.YtjoblmdfbddkeaaDoor

/- Labels out of bytes: the program's. -/
namespace Go.Proofs.YtjoblmdfbddkeaaDoor
open Go.RowKit

set_option maxHeartbeats 4000000 in
set_option maxRecDepth 100000 in
set_option linter.unusedSimpArgs false in
theorem g_numG (s : RdS) (m : Nat) (r : Nat × RdS) (h : s.number m = r) (mi : Int) (hm : mi = (m : Int)) (H : Hp) (g : Nat) (p : Option Addr) (c : Nat) (hr : RG 58 H g p c s) : GCalls Tryd.prog 18 [.pointer (some ⟨g, 0, none⟩), .int .u64 mi] [g] H fun v H' => v = .int .u64 (r.1 : Int) ∧ (∃ p' c', RG 58 H' g p' c' r.2) ∧ BSk H H' ∧ HExt [g] H H' := by
  subst h hm
  exact g_number H g p c s (m : Int) (by omega) hr
theorem numG_le {s : RdS} {m : Nat} {r : Nat × RdS} (h : s.number m = r) : r.1 ≤ m := by
  subst h
  exact number_le' s m
theorem bytes_len (s : RdS) (m : Int) : (s.bytes m).1.length ≤ (max m 0).toNat := by
  have := number_le' s (max m 0).toNat
  unfold RdS.bytes
  simp only
  split
  · simp
  · split
    · simp
    · simp only [List.length_take]
      omega
theorem fin_ne2 (s : RdS) : s.fin ≠ 0 ↔ (s.e ≠ 0 ∨ 0 < s.l.length) := by
  unfold RdS.fin
  split
  · simp [*]
  · split
    · simp [*]
    · simp_all
/-- A label's cells. -/
def labV (S : List UInt8) (g n : Int) : Value := .agg #[.string ⟨S.toArray⟩, .int .i64 g, .int .i64 n]
set_option maxHeartbeats 4000000 in
set_option maxRecDepth 100000 in
set_option linter.unusedSimpArgs false in
/-- The label of an opened block. -/
theorem g_lreadC (H : Hp) (p : Option Addr) (n c : Nat) (L M : List UInt8) (hb : BS H (.slice p n c) L) (hn : n ≤ 35184372088832) (ho : openL L = some (76 :: M)) (q1 : List UInt8 × RdS) (r2 r3 : Nat × RdS) (h1 : RdS.bytes ⟨M, 0⟩ 8 = q1) (h2 : q1.2.number 1073741824 = r2) (h3 : r2.2.number 1073741824 = r3) :
    GCalls Tryd.prog 6 [.slice p n c] [] H fun v H' => v = (if r3.2.fin ≠ 0 ∨ ¬ (poolO q1.1 ∧ 1 ≤ r2.1) then .tuple #[labV [] 0 0, .int .i64 3] else .tuple #[labV q1.1 r2.1 r3.1, .int .i64 0]) ∧ HExt [] H H' := by
  have hM : M.length + 1 ≤ L.length := by
    have : (76 :: M).length ≤ L.length := by
      unfold openL at ho
      split at ho
      · injection ho with ho
        rw [← ho, List.length_take]
        omega
      · cases ho
    simpa using this
  have hln := hb.len
  have hO := fun H p n c hb hn => g_copen H p n c L hb hn
  rw [ho] at hO
  simp only [Option.getD_some, Option.isSome_some] at hO
  have hq := bytes_len ⟨M, 0⟩ 8
  rw [h1] at hq
  have t2 := numG_le h2
  have t3 := numG_le h3
  have hB := fun H g p c (h : RG 58 H g p c ⟨M, 0⟩) => g_bytes H g p c ⟨M, 0⟩ 8 (by omega) h
  rw [h1] at hB
  have hR := fun H => g_lright H q1.1 (by omega) (r2.1 : Int) (r3.1 : Int)
  have hd : ∀ u, u = r2.1 → (poolO q1.1 ∧ 1 ≤ (r2.1 : Int) ∧ (r2.1 : Int) ≤ 1073741824 ∧ 0 ≤ (r3.1 : Int) ∧ (r3.1 : Int) ≤ 1073741824 ↔ poolO q1.1 ∧ 1 ≤ r2.1) := fun _ _ => ⟨fun h => ⟨h.1, by omega⟩, fun h => ⟨h.1, by omega, by omega, by omega, by omega⟩⟩
  simp only [hd _ rfl] at hR
  clear hd
  by_cases hg : poolO q1.1 ∧ 1 ≤ r2.1
  · rw [decide_eq_true hg] at hR
    simp only [hg, and_self, not_true_eq_false, or_false]
    refine GCalls.body tab_is Tryd.func6 rfl Tryd.results6 Tryd.ntmps6 (by simp) ?_ ?_
    · first | (intro _ h; cases h; done) | (simp; done) | (simp; omega) | (intro i hi; simp at hi; rcases hi with rfl | rfl <;> omega) | (intro i hi; simp at hi; rcases hi with rfl | rfl | rfl <;> omega)
    focus
      refine GWP.seq ?_
      refine GWP.region ?_
      focus
        refine GOps.w1 rfl rfl rfl rfl (gop_alloc' (id := ?_) ?_ tab_is rfl rfl ?_) ?_
        rotate_left 1
        · rfl
        · decide
      refine GOps.r rfl rfl rfl rfl (grd_assign rfl rfl) ?_
      refine GOps.nil ?_
      refine GWP.seq ?_
      refine GWP.region ?_
      refine GOps.r rfl rfl rfl rfl (grd_move rfl rfl) ?_
      refine GOps.w rfl rfl rfl rfl (gop_call rfl Tryd.call15 rfl ?_ (hO _ _ _ _ ?_ ?_)) ?_
      · intro _ h; cases h; done
      focus
        refine BS.ext (by assumption) ?_
        refine HExt.push ?_
        · exact HExt.refl _ _
      · omega
      rintro _ Hxa5 ⟨⟨pa1, na2, ca3, rfl, ba4⟩, xa5⟩
      have xa5l := HExt.len xa5; try simp at xa5l
      have ba4n := BS.len ba4; try simp at ba4n; try subst ba4n
      refine GOps.r rfl rfl rfl rfl (grd_move rfl rfl) ?_
      focus
        refine GOps.r rfl rfl rfl rfl (grd_extract (v := ?_) rfl rfl ?_) ?_
        rotate_left 1
        · simp only [List.getElem?_toArray, List.getElem?_cons_zero, List.getElem?_cons_succ]; rfl
      focus
        refine GOps.r rfl rfl rfl rfl (grd_extract (v := ?_) rfl rfl ?_) ?_
        rotate_left 1
        · simp only [List.getElem?_toArray, List.getElem?_cons_zero, List.getElem?_cons_succ]; rfl
      refine GOps.r rfl rfl rfl rfl (grd_assign rfl rfl) ?_
      refine GOps.r rfl rfl rfl rfl (grd_assign rfl rfl) ?_
      refine GOps.nil ?_
      refine GWP.seq ?_
      refine GWP.block ?_
      refine GWP.seq ?_
      refine GWP.region ?_
      refine GOps.r rfl rfl rfl rfl (grd_move rfl rfl) ?_
      refine GOps.r rfl rfl rfl rfl (grd_not rfl rfl) ?_
      refine GOps.r rfl rfl rfl rfl (grd_assign rfl rfl) ?_
      refine GOps.nil ?_
      refine GWP.cond_f rfl ?_ ?_
      · simp; done
      refine GWP.seq ?_
      refine GWP.region ?_
      refine GOps.r rfl rfl rfl rfl (grd_move rfl rfl) ?_
      refine GOps.r rfl rfl rfl rfl (grd_len tab_is rfl rfl rfl rfl rfl) ?_
      refine GOps.r rfl rfl rfl rfl (grd_eql rfl rfl rfl) ?_
      refine GOps.r rfl rfl rfl rfl (grd_move rfl rfl) ?_
      refine GOps.take rfl rfl ?_ ?_
      · simp; omega
      refine GOps.r rfl rfl rfl rfl (grd_move rfl rfl) ?_
      refine GOps.take rfl rfl ?_ ?_
      · simp; omega
      focus
        refine GOps.r rfl rfl rfl rfl (grd_indexBS (q := ?_) (L := ?_) tab_is rfl rfl rfl rfl rfl ?_ ?_ ?_) ?_
        rotate_left 2
        · assumption
        · rfl
        · exact Nat.le_of_ble_eq_true rfl
      refine GOps.take rfl rfl ?_ ?_
      · simp; omega
      focus
        refine GOps.re rfl rfl rfl rfl (grd_loadBSK (n := ?_) (c := ?_) (L := ?_) (u := ?_) tab_is rfl rfl rfl rfl ?_ ?_ ?_) ?_
        rotate_left 4
        · assumption
        · exact Nat.le_of_ble_eq_true rfl
        · simp only [List.getD_cons_zero]; rfl
      refine GOps.take rfl rfl ?_ ?_
      · simp; omega
      refine GOps.r rfl rfl rfl rfl (grd_neq rfl rfl rfl) ?_
      refine GOps.r rfl rfl rfl rfl (grd_pick_f rfl rfl ?_ rfl) ?_
      · exact decide_eq_false (by omega)
      refine GOps.r rfl rfl rfl rfl (grd_assign rfl rfl) ?_
      refine GOps.nil ?_
      refine GWP.cond_f rfl ?_ ?_
      · simp; done
      refine GWP.skip ?_
      refine GWP.seq ?_
      refine GWP.region ?_
      refine GOps.r rfl rfl rfl rfl (grd_move rfl rfl) ?_
      focus
        refine gops_bs rfl rfl rfl rfl (grd_slBS (l := ?_) (h := ?_) (m2 := ?_) (L := ?_) (M := ?_) tab_is rfl rfl rfl rfl ?_ ?_ ?_ ?_ ?_ ?_ ?_) ?_
        rotate_left 5
        · assumption
        · refine gbound_const ?_; exact rfl
        · exact rfl
        · exact Nat.le_of_ble_eq_true rfl
        · omega
        · simp; rfl
        · refine Eq.trans (List.take_of_length_le ?_) ?_; rotate_left 1; rfl; (simp; done)
      intro pa6 ca6 a6
      have a6n := BS.len a6
      focus
        refine GOps.w rfl rfl rfl rfl (gop_call rfl Tryd.call16 rfl ?_ (g_vopen _ _ _ _ ?_ ?_ ?_)) ?_
        · intro _ h; cases h; done
        rotate_left 1
        · assumption
        · omega
      rintro _ Hxa12 ⟨⟨ga7, pa8, ca9, rfl, la10, ra11⟩, xa12⟩
      have xa12l := HExt.len xa12; try simp at xa12l
      have ra11g := RG.hg ra11; unfold rdBlk at ra11g; have ra11q := Hp.at_lt ra11g
      refine GOps.r rfl rfl rfl rfl (grd_assign rfl rfl) ?_
      refine GOps.nil ?_
      refine GWP.seq ?_
      refine GWP.drawA 10 7 25 (zeroOf tab 25) [.reads [0, 3, 6], .write 1, .reads [2], .write 4, .reads [5], .write 7, .reads [8, 9], .write 10, .write 11] [] (by kernel_rfl) (by kernel_rfl) (by kernel_rfl) ?_ ?_
      · intro _ h; cases h; done
      refine GPA.reads (by kernel_rfl) (by simp only [List.filterMap_cons, List.filterMap_nil, List.getElem?_toArray, List.getElem?_cons_succ, List.getElem?_cons_zero]; rfl) ?_
      refine GQ.r rfl rfl rfl rfl (grd_move rfl rfl) ?_ ?_
      · refine .inr ?_; simp; done
      refine GQ.r rfl rfl rfl rfl (grd_move rfl rfl) ?_ ?_
      · refine .inr ?_; simp; done
      refine GQ.r rfl rfl rfl rfl (grd_move rfl rfl) ?_ ?_
      · refine .inr ?_; simp; done
      refine GQ.nil ?_
      focus
        refine GPA.call rfl rfl rfl tab_is rfl rfl rfl rfl rfl (List.cons_ne_nil _ _) rfl rfl rfl rfl rfl rfl rfl Tryd.call17 rfl ?_ ?_ (hB _ _ ?_ ?_ ?_) ?_ ?_ ?_
        · with_reducible rfl
        · simp [Ctx.may]; omega
        rotate_left 2
        · assumption
        focus
          refine List.forall_mem_cons.2 ⟨⟨?_, ?_, ?_⟩, ?_⟩
          rotate_left 1
          · assumption
          · rfl
          · intro _ h; cases h; done
        focus
          · intro _ h; cases h; done
      rintro _ Hxa21 ⟨⟨pa13, na14, ca15, rfl, ba16⟩, ⟨pa17, ca18, ra19⟩, ka20, xa21⟩
      have xa21l := HExt.len xa21; try simp at xa21l
      have ba16n := BS.len ba16; try simp at ba16n; try subst ba16n
      have ra19g := RG.hg ra19; unfold rdBlk at ra19g; have ra19q := Hp.at_lt ra19g
      refine ⟨blkOf pa13 ++ ([]), ?_, ?_, ?_⟩
      · intro _ h; cases h; done
      focus
        refine prt_len (by assumption) ?_
        focus
          · intro _ h; cases h; done
      refine GPA.reads (by kernel_rfl) (by simp only [List.filterMap_cons, List.filterMap_nil, List.getElem?_toArray, List.getElem?_cons_succ, List.getElem?_cons_zero]; rfl) ?_
      focus
        refine GQ.r rfl rfl rfl rfl (grd_strBP (L := ?_) tab_is rfl rfl rfl rfl rfl rfl rfl rfl ?_) ?_ ?_
        rotate_left 1
        · assumption
        · refine .inr ?_; simp; done
      refine GQ.nil ?_
      focus
        refine GPA.call rfl rfl rfl tab_is rfl rfl rfl rfl rfl (List.cons_ne_nil _ _) rfl rfl rfl rfl rfl rfl rfl Tryd.call18 rfl ?_ ?_ (g_numG _ _ _ h2 _ ?_ _ _ ?_ ?_ ?_) ?_ ?_ ?_
        · with_reducible rfl
        · simp [Ctx.may]; omega
        · omega
        rotate_left 2
        · assumption
        focus
          refine List.forall_mem_cons.2 ⟨⟨?_, ?_, ?_⟩, ?_⟩
          rotate_left 1
          · assumption
          · rfl
          · intro _ h; cases h; done
        focus
          refine prt_app (by assumption) ?_ ?_
          focus
            focus
              refine List.forall_mem_cons.2 ⟨⟨?_, ?_, ?_⟩, ?_⟩
              rotate_left 1
              · assumption
              · rfl
              · intro _ h; cases h; done
          focus
            · intro _ h; cases h; done
      rintro _ Hxa26 ⟨rfl, ⟨pa22, ca23, ra24⟩, ka25, xa26⟩
      have xa26l := HExt.len xa26; try simp at xa26l
      replace ba16 := ka25 _ _ ba16
      have ra24g := RG.hg ra24; unfold rdBlk at ra24g; have ra24q := Hp.at_lt ra24g
      refine ⟨(blkOf pa13 ++ []), ?_, ?_, ?_⟩
      · simp; done
      focus
        refine prt_len (by assumption) ?_
        focus
          · intro _ h; cases h; done
      refine GPA.reads (by kernel_rfl) (by simp only [List.filterMap_cons, List.filterMap_nil, List.getElem?_toArray, List.getElem?_cons_succ, List.getElem?_cons_zero]; rfl) ?_
      refine GQ.r rfl rfl rfl rfl (grd_conv_in tab_is rfl rfl rfl rfl rfl ?_) ?_ ?_
      · refine wrap_i64_in ?_; omega
      · refine .inr ?_; simp; done
      refine GQ.nil ?_
      focus
        refine GPA.call rfl rfl rfl tab_is rfl rfl rfl rfl rfl (List.cons_ne_nil _ _) rfl rfl rfl rfl rfl rfl rfl Tryd.call18 rfl ?_ ?_ (g_numG _ _ _ h3 _ ?_ _ _ ?_ ?_ ?_) ?_ ?_ ?_
        · with_reducible rfl
        · simp [Ctx.may]; omega
        · omega
        rotate_left 2
        · assumption
        focus
          refine List.forall_mem_cons.2 ⟨⟨?_, ?_, ?_⟩, ?_⟩
          rotate_left 1
          · assumption
          · rfl
          · intro _ h; cases h; done
        focus
          refine prt_app (by assumption) ?_ ?_
          focus
            focus
              refine List.forall_mem_cons.2 ⟨⟨?_, ?_, ?_⟩, ?_⟩
              rotate_left 1
              · assumption
              · rfl
              · intro _ h; cases h; done
          focus
            · intro _ h; cases h; done
      rintro _ Hxa31 ⟨rfl, ⟨pa27, ca28, ra29⟩, ka30, xa31⟩
      have xa31l := HExt.len xa31; try simp at xa31l
      replace ba16 := ka30 _ _ ba16
      have ra29g := RG.hg ra29; unfold rdBlk at ra29g; have ra29q := Hp.at_lt ra29g
      refine ⟨(blkOf pa13 ++ []), ?_, ?_, ?_⟩
      · simp; done
      focus
        refine prt_len (by assumption) ?_
        focus
          · intro _ h; cases h; done
      refine GPA.reads (by kernel_rfl) (by simp only [List.filterMap_cons, List.filterMap_nil, List.getElem?_toArray, List.getElem?_cons_succ, List.getElem?_cons_zero]; rfl) ?_
      refine GQ.r rfl rfl rfl rfl (grd_conv_in tab_is rfl rfl rfl rfl rfl ?_) ?_ ?_
      · refine wrap_i64_in ?_; omega
      · refine .inr ?_; simp; done
      focus
        refine GQ.r rfl rfl rfl rfl (grd_build (cs := ?_) tab_is rfl rfl rfl ?_ rfl ?_) ?_ ?_
        rotate_left 1
        · decide
        · simp [gfill, gsets, Value.cells]; rfl
        · refine .inr ?_; simp; done
      refine GQ.nil ?_
      refine GPA.commit (tl := false) ((blkOf pa13 ++ [])) (by kernel_rfl) rfl tab_is rfl rfl rfl rfl rfl rfl (List.cons_ne_nil _ _) rfl rfl ?_ (prt_succ ?_) ?_
      · simp; done
      focus
        refine prt_len (by assumption) ?_
        focus
          · intro _ h; cases h; done
      focus
        refine GPcs.sto (j := List.length Hxa31) true (blkOf pa13 ++ []) rfl rfl ?_ rfl (gop_storeC (b := ?_) (cs := ?_) tab_is rfl rfl ?_ rfl rfl ?_ ?_ ?_ ?_ ?_ ?_) rfl ?_ ?_ ?_ ?_ ?_ ?_
        · with_reducible rfl
        rotate_left 2
        · rfl
        · rfl
        · exact Hp.at_push_eq
        · rfl
        · exact Nat.le_of_ble_eq_true rfl
        · exact .inl (by simp)
        · simp [splice, Value.cells]; rfl
        focus
          refine List.forall_mem_cons.2 ⟨⟨?_, ?_, ?_⟩, ?_⟩
          rotate_left 1
          · exact Hp.at_push_eq
          · rfl
          · intro _ h; cases h; done
        · exact .inr (by simp; omega)
        focus
          refine prt_app (BS.ext (by assumption) ?_) ?_ ?_
          focus
            refine HExt.push ?_
            · exact HExt.refl _ _
          focus
            focus
              refine List.forall_mem_cons.2 ⟨⟨?_, ?_, ?_⟩, ?_⟩
              rotate_left 1
              · exact Hp.at_push_eq
              · rfl
              · intro _ h; cases h; done
          focus
            · intro _ h; cases h; done
        · simp; done
        focus
          refine prt_len (BS.ext (by assumption) ?_) ?_
          focus
            refine HExt.put ?_ ?_
            refine HExt.push ?_
            · exact HExt.refl _ _
            · exact .inr (by omega)
          focus
            · intro _ h; cases h; done
      refine GPcs.nil ?_
      refine GWP.seq ?_
      refine GWP.seq ?_
      refine GWP.region ?_
      refine GOps.r rfl rfl rfl rfl (grd_move rfl rfl) ?_
      focus
        refine GOps.w1 rfl rfl rfl rfl (gop_call rfl Tryd.call19 rfl ?_ (g_end _ _ ?_ ?_ ?_ ?_)) ?_
        · intro _ h; cases h; done
        rotate_left 3
        refine rg_ext (by assumption) ?_
        refine HExt.put ?_ ?_
        refine HExt.push ?_
        · exact HExt.refl _ _
        · exact .inr (by omega)
      refine GOps.r rfl rfl rfl rfl (grd_neq rfl rfl rfl) ?_
      refine GOps.r rfl rfl rfl rfl (grd_move rfl rfl) ?_
      refine GOps.split rfl rfl (fun a32 => ?_) (fun a32 => ?_)
      simp only [beq_true, beq_false, Bool.not_true, Bool.not_false, Bool.not_eq_true', Bool.not_eq_false', decide_eq_true_eq, decide_eq_false_iff_not] at a32
      refine GOps.take rfl rfl ?_ ?_
      · exact beq_iff_eq.2 (decide_eq_false (by assumption))
      focus
        refine GOps.r rfl rfl rfl rfl (grd_loadNK (b := ?_) (cs := ?_) tab_is rfl rfl rfl rfl ?_ ?_ ?_) ?_
        rotate_left 2
        refine Hp.at_put_eq ?_
        · simp; done
        · exact Nat.le_of_ble_eq_true rfl
        · simp [Value.cells]; rfl
      refine GOps.take rfl rfl ?_ ?_
      · exact beq_iff_eq.2 (decide_eq_false (by assumption))
      refine GOps.w rfl rfl rfl rfl (gop_call rfl Tryd.call11 rfl ?_ (hR _)) ?_
      · intro _ h; cases h; done
      rintro _ Hxa33 ⟨rfl, xa33⟩
      have xa33l := HExt.len xa33; try simp at xa33l
      refine GOps.take rfl rfl ?_ ?_
      · exact beq_iff_eq.2 (decide_eq_false (by assumption))
      refine GOps.r rfl rfl rfl rfl (grd_not rfl rfl) ?_
      refine GOps.r rfl rfl rfl rfl (grd_pick_f rfl rfl ?_ rfl) ?_
      · exact decide_eq_false (by assumption)
      refine GOps.nil ?_
      refine GWP.cond_f rfl ?_ ?_
      · simp; done
      refine GWP.skip ?_
      refine GWP.seq ?_
      refine GWP.region ?_
      focus
        refine GOps.r rfl rfl rfl rfl (grd_loadNK (b := ?_) (cs := ?_) tab_is rfl rfl rfl rfl ?_ ?_ ?_) ?_
        rotate_left 2
        refine (HExt.eq (by assumption) _ ?_ ?_).trans ?_
        · simp; done
        · intro h; cases h; done
        refine Hp.at_put_eq ?_
        · simp; done
        · exact Nat.le_of_ble_eq_true rfl
        · simp [Value.cells]; rfl
      focus
        refine GOps.s rfl rfl rfl (gop_storeC (b := ?_) (cs := ?_) tab_is rfl rfl ?_ rfl rfl ?_ ?_ ?_ ?_ ?_ ?_) ?_
        rotate_left 2
        · rfl
        · rfl
        refine (HExt.eq (by assumption) _ ?_ ?_).trans ?_
        · simp; omega
        · intro h; cases h; done
        refine (Hp.at_put_ne ?_).trans ?_
        · omega
        refine (Hp.at_push_lt ?_).trans ?_
        · omega
        refine (HExt.eq (by assumption) _ ?_ ?_).trans ?_
        · omega
        · simp; omega
        refine (HExt.eq (by assumption) _ ?_ ?_).trans ?_
        · omega
        · simp; omega
        refine (HExt.eq (by assumption) _ ?_ ?_).trans ?_
        · omega
        · simp; omega
        refine (HExt.eq (by assumption) _ ?_ ?_).trans ?_
        · omega
        · intro h; cases h; done
        refine (HExt.eq (by assumption) _ ?_ ?_).trans ?_
        · simp; done
        · intro h; cases h; done
        · exact Hp.at_push_eq
        · rfl
        · exact Nat.le_of_ble_eq_true rfl
        · exact .inr (by simp)
        · simp [splice, Value.cells]; rfl
      refine GOps.r rfl rfl rfl rfl (grd_assign rfl rfl) ?_
      refine GOps.nil ?_
      refine GWP.ret ?_
      focus
        refine ⟨_, (.two (gres_cellNK (b := ?_) (cs := ?_) rfl rfl rfl ?_ ?_ ?_) (.one rfl)), ?_⟩
        rotate_left 2
        refine Hp.at_put_eq ?_
        · omega
        · exact Nat.le_of_ble_eq_true rfl
        · simp [Value.cells]; rfl
      refine ⟨?_, ?_⟩
      · rw [if_neg (by omega)]; rfl
      refine HExt.put ?_ ?_
      refine HExt.tr ?_ (by assumption) ?_
      refine HExt.put ?_ ?_
      refine HExt.push ?_
      refine HExt.tr ?_ (by assumption) ?_
      refine HExt.tr ?_ (by assumption) ?_
      refine HExt.tr ?_ (by assumption) ?_
      refine HExt.tr ?_ (by assumption) ?_
      refine HExt.tr ?_ (by assumption) ?_
      refine HExt.push ?_
      · exact HExt.refl _ _
      · intro _ h; cases h; done
      · intro _ h; cases h; done
      · simp; omega
      · simp; omega
      · simp; omega
      · exact .inr (by omega)
      · intro _ h; cases h; done
      · exact .inr (by omega)
      simp only [beq_true, beq_false, Bool.not_true, Bool.not_false, Bool.not_eq_true', Bool.not_eq_false', decide_eq_true_eq, decide_eq_false_iff_not] at a32
      refine GOps.no rfl ?_ rfl rfl ?_
      · exact beq_eq_false_iff_ne.2 (by rw [decide_eq_true (by assumption)]; decide)
      refine GOps.no rfl ?_ rfl rfl ?_
      · exact beq_eq_false_iff_ne.2 (by rw [decide_eq_true (by assumption)]; decide)
      refine GOps.no rfl ?_ rfl rfl ?_
      · exact beq_eq_false_iff_ne.2 (by rw [decide_eq_true (by assumption)]; decide)
      refine GOps.r rfl rfl rfl rfl (grd_pick_t rfl rfl ?_ rfl) ?_
      · exact decide_eq_true (by assumption)
      refine GOps.nil ?_
      refine GWP.cond_t rfl ?_ ?_
      · with_reducible rfl
      refine GWP.seq ?_
      refine GWP.region ?_
      focus
        refine GOps.r rfl rfl rfl rfl (grd_build (cs := ?_) tab_is rfl rfl rfl ?_ rfl ?_) ?_
        rotate_left 1
        · decide
        · simp [gfill, gsets, Value.cells]; rfl
      focus
        refine GOps.s rfl rfl rfl (gop_storeC (b := ?_) (cs := ?_) tab_is rfl rfl ?_ rfl rfl ?_ ?_ ?_ ?_ ?_ ?_) ?_
        rotate_left 2
        · rfl
        · rfl
        refine (Hp.at_put_ne ?_).trans ?_
        · omega
        refine (Hp.at_push_lt ?_).trans ?_
        · omega
        refine (HExt.eq (by assumption) _ ?_ ?_).trans ?_
        · omega
        · simp; omega
        refine (HExt.eq (by assumption) _ ?_ ?_).trans ?_
        · omega
        · simp; omega
        refine (HExt.eq (by assumption) _ ?_ ?_).trans ?_
        · omega
        · simp; omega
        refine (HExt.eq (by assumption) _ ?_ ?_).trans ?_
        · omega
        · intro h; cases h; done
        refine (HExt.eq (by assumption) _ ?_ ?_).trans ?_
        · simp; done
        · intro h; cases h; done
        · exact Hp.at_push_eq
        · rfl
        · decide
        · exact .inr (by simp)
        · simp [splice, Value.cells]; rfl
      refine GOps.r rfl rfl rfl rfl (grd_assign rfl rfl) ?_
      refine GOps.nil ?_
      refine GWP.ret ?_
      focus
        refine ⟨_, (.two (gres_cellNK (b := ?_) (cs := ?_) rfl rfl rfl ?_ ?_ ?_) (.one rfl)), ?_⟩
        rotate_left 2
        refine Hp.at_put_eq ?_
        · simp; omega
        · decide
        · simp [Value.cells]; rfl
      refine ⟨?_, ?_⟩
      · rw [if_pos (by omega)]; rfl
      refine HExt.put ?_ ?_
      refine HExt.put ?_ ?_
      refine HExt.push ?_
      refine HExt.tr ?_ (by assumption) ?_
      refine HExt.tr ?_ (by assumption) ?_
      refine HExt.tr ?_ (by assumption) ?_
      refine HExt.tr ?_ (by assumption) ?_
      refine HExt.tr ?_ (by assumption) ?_
      refine HExt.push ?_
      · exact HExt.refl _ _
      · intro _ h; cases h; done
      · intro _ h; cases h; done
      · simp; omega
      · simp; omega
      · simp; omega
      · exact .inr (by omega)
      · exact .inr (by omega)
  · rw [decide_eq_false hg] at hR
    simp only [hg, not_false_eq_true, or_true, if_true]
    refine GCalls.body tab_is Tryd.func6 rfl Tryd.results6 Tryd.ntmps6 (by simp) ?_ ?_
    · first | (intro _ h; cases h; done) | (simp; done) | (simp; omega) | (intro i hi; simp at hi; rcases hi with rfl | rfl <;> omega) | (intro i hi; simp at hi; rcases hi with rfl | rfl | rfl <;> omega)
    focus
      refine GWP.seq ?_
      refine GWP.region ?_
      focus
        refine GOps.w1 rfl rfl rfl rfl (gop_alloc' (id := ?_) ?_ tab_is rfl rfl ?_) ?_
        rotate_left 1
        · rfl
        · decide
      refine GOps.r rfl rfl rfl rfl (grd_assign rfl rfl) ?_
      refine GOps.nil ?_
      refine GWP.seq ?_
      refine GWP.region ?_
      refine GOps.r rfl rfl rfl rfl (grd_move rfl rfl) ?_
      refine GOps.w rfl rfl rfl rfl (gop_call rfl Tryd.call15 rfl ?_ (hO _ _ _ _ ?_ ?_)) ?_
      · intro _ h; cases h; done
      focus
        refine BS.ext (by assumption) ?_
        refine HExt.push ?_
        · exact HExt.refl _ _
      · omega
      rintro _ Hxb5 ⟨⟨pb1, nb2, cb3, rfl, bb4⟩, xb5⟩
      have xb5l := HExt.len xb5; try simp at xb5l
      have bb4n := BS.len bb4; try simp at bb4n; try subst bb4n
      refine GOps.r rfl rfl rfl rfl (grd_move rfl rfl) ?_
      focus
        refine GOps.r rfl rfl rfl rfl (grd_extract (v := ?_) rfl rfl ?_) ?_
        rotate_left 1
        · simp only [List.getElem?_toArray, List.getElem?_cons_zero, List.getElem?_cons_succ]; rfl
      focus
        refine GOps.r rfl rfl rfl rfl (grd_extract (v := ?_) rfl rfl ?_) ?_
        rotate_left 1
        · simp only [List.getElem?_toArray, List.getElem?_cons_zero, List.getElem?_cons_succ]; rfl
      refine GOps.r rfl rfl rfl rfl (grd_assign rfl rfl) ?_
      refine GOps.r rfl rfl rfl rfl (grd_assign rfl rfl) ?_
      refine GOps.nil ?_
      refine GWP.seq ?_
      refine GWP.block ?_
      refine GWP.seq ?_
      refine GWP.region ?_
      refine GOps.r rfl rfl rfl rfl (grd_move rfl rfl) ?_
      refine GOps.r rfl rfl rfl rfl (grd_not rfl rfl) ?_
      refine GOps.r rfl rfl rfl rfl (grd_assign rfl rfl) ?_
      refine GOps.nil ?_
      refine GWP.cond_f rfl ?_ ?_
      · simp; done
      refine GWP.seq ?_
      refine GWP.region ?_
      refine GOps.r rfl rfl rfl rfl (grd_move rfl rfl) ?_
      refine GOps.r rfl rfl rfl rfl (grd_len tab_is rfl rfl rfl rfl rfl) ?_
      refine GOps.r rfl rfl rfl rfl (grd_eql rfl rfl rfl) ?_
      refine GOps.r rfl rfl rfl rfl (grd_move rfl rfl) ?_
      refine GOps.take rfl rfl ?_ ?_
      · simp; omega
      refine GOps.r rfl rfl rfl rfl (grd_move rfl rfl) ?_
      refine GOps.take rfl rfl ?_ ?_
      · simp; omega
      focus
        refine GOps.r rfl rfl rfl rfl (grd_indexBS (q := ?_) (L := ?_) tab_is rfl rfl rfl rfl rfl ?_ ?_ ?_) ?_
        rotate_left 2
        · assumption
        · rfl
        · exact Nat.le_of_ble_eq_true rfl
      refine GOps.take rfl rfl ?_ ?_
      · simp; omega
      focus
        refine GOps.re rfl rfl rfl rfl (grd_loadBSK (n := ?_) (c := ?_) (L := ?_) (u := ?_) tab_is rfl rfl rfl rfl ?_ ?_ ?_) ?_
        rotate_left 4
        · assumption
        · exact Nat.le_of_ble_eq_true rfl
        · simp only [List.getD_cons_zero]; rfl
      refine GOps.take rfl rfl ?_ ?_
      · simp; omega
      refine GOps.r rfl rfl rfl rfl (grd_neq rfl rfl rfl) ?_
      refine GOps.r rfl rfl rfl rfl (grd_pick_f rfl rfl ?_ rfl) ?_
      · exact decide_eq_false (by omega)
      refine GOps.r rfl rfl rfl rfl (grd_assign rfl rfl) ?_
      refine GOps.nil ?_
      refine GWP.cond_f rfl ?_ ?_
      · simp; done
      refine GWP.skip ?_
      refine GWP.seq ?_
      refine GWP.region ?_
      refine GOps.r rfl rfl rfl rfl (grd_move rfl rfl) ?_
      focus
        refine gops_bs rfl rfl rfl rfl (grd_slBS (l := ?_) (h := ?_) (m2 := ?_) (L := ?_) (M := ?_) tab_is rfl rfl rfl rfl ?_ ?_ ?_ ?_ ?_ ?_ ?_) ?_
        rotate_left 5
        · assumption
        · refine gbound_const ?_; exact rfl
        · exact rfl
        · exact Nat.le_of_ble_eq_true rfl
        · omega
        · simp; rfl
        · refine Eq.trans (List.take_of_length_le ?_) ?_; rotate_left 1; rfl; (simp; done)
      intro pb6 cb6 b6
      have b6n := BS.len b6
      focus
        refine GOps.w rfl rfl rfl rfl (gop_call rfl Tryd.call16 rfl ?_ (g_vopen _ _ _ _ ?_ ?_ ?_)) ?_
        · intro _ h; cases h; done
        rotate_left 1
        · assumption
        · omega
      rintro _ Hxb12 ⟨⟨gb7, pb8, cb9, rfl, lb10, rb11⟩, xb12⟩
      have xb12l := HExt.len xb12; try simp at xb12l
      have rb11g := RG.hg rb11; unfold rdBlk at rb11g; have rb11q := Hp.at_lt rb11g
      refine GOps.r rfl rfl rfl rfl (grd_assign rfl rfl) ?_
      refine GOps.nil ?_
      refine GWP.seq ?_
      refine GWP.drawA 10 7 25 (zeroOf tab 25) [.reads [0, 3, 6], .write 1, .reads [2], .write 4, .reads [5], .write 7, .reads [8, 9], .write 10, .write 11] [] (by kernel_rfl) (by kernel_rfl) (by kernel_rfl) ?_ ?_
      · intro _ h; cases h; done
      refine GPA.reads (by kernel_rfl) (by simp only [List.filterMap_cons, List.filterMap_nil, List.getElem?_toArray, List.getElem?_cons_succ, List.getElem?_cons_zero]; rfl) ?_
      refine GQ.r rfl rfl rfl rfl (grd_move rfl rfl) ?_ ?_
      · refine .inr ?_; simp; done
      refine GQ.r rfl rfl rfl rfl (grd_move rfl rfl) ?_ ?_
      · refine .inr ?_; simp; done
      refine GQ.r rfl rfl rfl rfl (grd_move rfl rfl) ?_ ?_
      · refine .inr ?_; simp; done
      refine GQ.nil ?_
      focus
        refine GPA.call rfl rfl rfl tab_is rfl rfl rfl rfl rfl (List.cons_ne_nil _ _) rfl rfl rfl rfl rfl rfl rfl Tryd.call17 rfl ?_ ?_ (hB _ _ ?_ ?_ ?_) ?_ ?_ ?_
        · with_reducible rfl
        · simp [Ctx.may]; omega
        rotate_left 2
        · assumption
        focus
          refine List.forall_mem_cons.2 ⟨⟨?_, ?_, ?_⟩, ?_⟩
          rotate_left 1
          · assumption
          · rfl
          · intro _ h; cases h; done
        focus
          · intro _ h; cases h; done
      rintro _ Hxb21 ⟨⟨pb13, nb14, cb15, rfl, bb16⟩, ⟨pb17, cb18, rb19⟩, kb20, xb21⟩
      have xb21l := HExt.len xb21; try simp at xb21l
      have bb16n := BS.len bb16; try simp at bb16n; try subst bb16n
      have rb19g := RG.hg rb19; unfold rdBlk at rb19g; have rb19q := Hp.at_lt rb19g
      refine ⟨blkOf pb13 ++ ([]), ?_, ?_, ?_⟩
      · intro _ h; cases h; done
      focus
        refine prt_len (by assumption) ?_
        focus
          · intro _ h; cases h; done
      refine GPA.reads (by kernel_rfl) (by simp only [List.filterMap_cons, List.filterMap_nil, List.getElem?_toArray, List.getElem?_cons_succ, List.getElem?_cons_zero]; rfl) ?_
      focus
        refine GQ.r rfl rfl rfl rfl (grd_strBP (L := ?_) tab_is rfl rfl rfl rfl rfl rfl rfl rfl ?_) ?_ ?_
        rotate_left 1
        · assumption
        · refine .inr ?_; simp; done
      refine GQ.nil ?_
      focus
        refine GPA.call rfl rfl rfl tab_is rfl rfl rfl rfl rfl (List.cons_ne_nil _ _) rfl rfl rfl rfl rfl rfl rfl Tryd.call18 rfl ?_ ?_ (g_numG _ _ _ h2 _ ?_ _ _ ?_ ?_ ?_) ?_ ?_ ?_
        · with_reducible rfl
        · simp [Ctx.may]; omega
        · omega
        rotate_left 2
        · assumption
        focus
          refine List.forall_mem_cons.2 ⟨⟨?_, ?_, ?_⟩, ?_⟩
          rotate_left 1
          · assumption
          · rfl
          · intro _ h; cases h; done
        focus
          refine prt_app (by assumption) ?_ ?_
          focus
            focus
              refine List.forall_mem_cons.2 ⟨⟨?_, ?_, ?_⟩, ?_⟩
              rotate_left 1
              · assumption
              · rfl
              · intro _ h; cases h; done
          focus
            · intro _ h; cases h; done
      rintro _ Hxb26 ⟨rfl, ⟨pb22, cb23, rb24⟩, kb25, xb26⟩
      have xb26l := HExt.len xb26; try simp at xb26l
      replace bb16 := kb25 _ _ bb16
      have rb24g := RG.hg rb24; unfold rdBlk at rb24g; have rb24q := Hp.at_lt rb24g
      refine ⟨(blkOf pb13 ++ []), ?_, ?_, ?_⟩
      · simp; done
      focus
        refine prt_len (by assumption) ?_
        focus
          · intro _ h; cases h; done
      refine GPA.reads (by kernel_rfl) (by simp only [List.filterMap_cons, List.filterMap_nil, List.getElem?_toArray, List.getElem?_cons_succ, List.getElem?_cons_zero]; rfl) ?_
      refine GQ.r rfl rfl rfl rfl (grd_conv_in tab_is rfl rfl rfl rfl rfl ?_) ?_ ?_
      · refine wrap_i64_in ?_; omega
      · refine .inr ?_; simp; done
      refine GQ.nil ?_
      focus
        refine GPA.call rfl rfl rfl tab_is rfl rfl rfl rfl rfl (List.cons_ne_nil _ _) rfl rfl rfl rfl rfl rfl rfl Tryd.call18 rfl ?_ ?_ (g_numG _ _ _ h3 _ ?_ _ _ ?_ ?_ ?_) ?_ ?_ ?_
        · with_reducible rfl
        · simp [Ctx.may]; omega
        · omega
        rotate_left 2
        · assumption
        focus
          refine List.forall_mem_cons.2 ⟨⟨?_, ?_, ?_⟩, ?_⟩
          rotate_left 1
          · assumption
          · rfl
          · intro _ h; cases h; done
        focus
          refine prt_app (by assumption) ?_ ?_
          focus
            focus
              refine List.forall_mem_cons.2 ⟨⟨?_, ?_, ?_⟩, ?_⟩
              rotate_left 1
              · assumption
              · rfl
              · intro _ h; cases h; done
          focus
            · intro _ h; cases h; done
      rintro _ Hxb31 ⟨rfl, ⟨pb27, cb28, rb29⟩, kb30, xb31⟩
      have xb31l := HExt.len xb31; try simp at xb31l
      replace bb16 := kb30 _ _ bb16
      have rb29g := RG.hg rb29; unfold rdBlk at rb29g; have rb29q := Hp.at_lt rb29g
      refine ⟨(blkOf pb13 ++ []), ?_, ?_, ?_⟩
      · simp; done
      focus
        refine prt_len (by assumption) ?_
        focus
          · intro _ h; cases h; done
      refine GPA.reads (by kernel_rfl) (by simp only [List.filterMap_cons, List.filterMap_nil, List.getElem?_toArray, List.getElem?_cons_succ, List.getElem?_cons_zero]; rfl) ?_
      refine GQ.r rfl rfl rfl rfl (grd_conv_in tab_is rfl rfl rfl rfl rfl ?_) ?_ ?_
      · refine wrap_i64_in ?_; omega
      · refine .inr ?_; simp; done
      focus
        refine GQ.r rfl rfl rfl rfl (grd_build (cs := ?_) tab_is rfl rfl rfl ?_ rfl ?_) ?_ ?_
        rotate_left 1
        · decide
        · simp [gfill, gsets, Value.cells]; rfl
        · refine .inr ?_; simp; done
      refine GQ.nil ?_
      refine GPA.commit (tl := false) ((blkOf pb13 ++ [])) (by kernel_rfl) rfl tab_is rfl rfl rfl rfl rfl rfl (List.cons_ne_nil _ _) rfl rfl ?_ (prt_succ ?_) ?_
      · simp; done
      focus
        refine prt_len (by assumption) ?_
        focus
          · intro _ h; cases h; done
      focus
        refine GPcs.sto (j := List.length Hxb31) true (blkOf pb13 ++ []) rfl rfl ?_ rfl (gop_storeC (b := ?_) (cs := ?_) tab_is rfl rfl ?_ rfl rfl ?_ ?_ ?_ ?_ ?_ ?_) rfl ?_ ?_ ?_ ?_ ?_ ?_
        · with_reducible rfl
        rotate_left 2
        · rfl
        · rfl
        · exact Hp.at_push_eq
        · rfl
        · exact Nat.le_of_ble_eq_true rfl
        · exact .inl (by simp)
        · simp [splice, Value.cells]; rfl
        focus
          refine List.forall_mem_cons.2 ⟨⟨?_, ?_, ?_⟩, ?_⟩
          rotate_left 1
          · exact Hp.at_push_eq
          · rfl
          · intro _ h; cases h; done
        · exact .inr (by simp; omega)
        focus
          refine prt_app (BS.ext (by assumption) ?_) ?_ ?_
          focus
            refine HExt.push ?_
            · exact HExt.refl _ _
          focus
            focus
              refine List.forall_mem_cons.2 ⟨⟨?_, ?_, ?_⟩, ?_⟩
              rotate_left 1
              · exact Hp.at_push_eq
              · rfl
              · intro _ h; cases h; done
          focus
            · intro _ h; cases h; done
        · simp; done
        focus
          refine prt_len (BS.ext (by assumption) ?_) ?_
          focus
            refine HExt.put ?_ ?_
            refine HExt.push ?_
            · exact HExt.refl _ _
            · exact .inr (by omega)
          focus
            · intro _ h; cases h; done
      refine GPcs.nil ?_
      refine GWP.seq ?_
      refine GWP.seq ?_
      refine GWP.region ?_
      refine GOps.r rfl rfl rfl rfl (grd_move rfl rfl) ?_
      focus
        refine GOps.w1 rfl rfl rfl rfl (gop_call rfl Tryd.call19 rfl ?_ (g_end _ _ ?_ ?_ ?_ ?_)) ?_
        · intro _ h; cases h; done
        rotate_left 3
        refine rg_ext (by assumption) ?_
        refine HExt.put ?_ ?_
        refine HExt.push ?_
        · exact HExt.refl _ _
        · exact .inr (by omega)
      refine GOps.r rfl rfl rfl rfl (grd_neq rfl rfl rfl) ?_
      refine GOps.r rfl rfl rfl rfl (grd_move rfl rfl) ?_
      refine GOps.split rfl rfl (fun b32 => ?_) (fun b32 => ?_)
      simp only [beq_true, beq_false, Bool.not_true, Bool.not_false, Bool.not_eq_true', Bool.not_eq_false', decide_eq_true_eq, decide_eq_false_iff_not] at b32
      refine GOps.take rfl rfl ?_ ?_
      · exact beq_iff_eq.2 (decide_eq_false (by assumption))
      focus
        refine GOps.r rfl rfl rfl rfl (grd_loadNK (b := ?_) (cs := ?_) tab_is rfl rfl rfl rfl ?_ ?_ ?_) ?_
        rotate_left 2
        refine Hp.at_put_eq ?_
        · simp; done
        · exact Nat.le_of_ble_eq_true rfl
        · simp [Value.cells]; rfl
      refine GOps.take rfl rfl ?_ ?_
      · exact beq_iff_eq.2 (decide_eq_false (by assumption))
      refine GOps.w rfl rfl rfl rfl (gop_call rfl Tryd.call11 rfl ?_ (hR _)) ?_
      · intro _ h; cases h; done
      rintro _ Hxb33 ⟨rfl, xb33⟩
      have xb33l := HExt.len xb33; try simp at xb33l
      refine GOps.take rfl rfl ?_ ?_
      · exact beq_iff_eq.2 (decide_eq_false (by assumption))
      refine GOps.r rfl rfl rfl rfl (grd_not rfl rfl) ?_
      refine GOps.r rfl rfl rfl rfl (grd_pick_f rfl rfl ?_ rfl) ?_
      · exact decide_eq_false (by assumption)
      refine GOps.nil ?_
      refine GWP.cond_t rfl ?_ ?_
      · simp; done
      refine GWP.seq ?_
      refine GWP.region ?_
      focus
        refine GOps.r rfl rfl rfl rfl (grd_build (cs := ?_) tab_is rfl rfl rfl ?_ rfl ?_) ?_
        rotate_left 1
        · decide
        · simp [gfill, gsets, Value.cells]; rfl
      focus
        refine GOps.s rfl rfl rfl (gop_storeC (b := ?_) (cs := ?_) tab_is rfl rfl ?_ rfl rfl ?_ ?_ ?_ ?_ ?_ ?_) ?_
        rotate_left 2
        · rfl
        · rfl
        refine (HExt.eq (by assumption) _ ?_ ?_).trans ?_
        · simp; omega
        · intro h; cases h; done
        refine (Hp.at_put_ne ?_).trans ?_
        · omega
        refine (Hp.at_push_lt ?_).trans ?_
        · omega
        refine (HExt.eq (by assumption) _ ?_ ?_).trans ?_
        · omega
        · simp; omega
        refine (HExt.eq (by assumption) _ ?_ ?_).trans ?_
        · omega
        · simp; omega
        refine (HExt.eq (by assumption) _ ?_ ?_).trans ?_
        · omega
        · simp; omega
        refine (HExt.eq (by assumption) _ ?_ ?_).trans ?_
        · omega
        · intro h; cases h; done
        refine (HExt.eq (by assumption) _ ?_ ?_).trans ?_
        · simp; done
        · intro h; cases h; done
        · exact Hp.at_push_eq
        · rfl
        · decide
        · exact .inr (by simp)
        · simp [splice, Value.cells]; rfl
      refine GOps.r rfl rfl rfl rfl (grd_assign rfl rfl) ?_
      refine GOps.nil ?_
      refine GWP.ret ?_
      focus
        refine ⟨_, (.two (gres_cellNK (b := ?_) (cs := ?_) rfl rfl rfl ?_ ?_ ?_) (.one rfl)), ?_⟩
        rotate_left 2
        refine Hp.at_put_eq ?_
        · omega
        · decide
        · simp [Value.cells]; rfl
      refine ⟨?_, ?_⟩
      · rfl
      refine HExt.put ?_ ?_
      refine HExt.tr ?_ (by assumption) ?_
      refine HExt.put ?_ ?_
      refine HExt.push ?_
      refine HExt.tr ?_ (by assumption) ?_
      refine HExt.tr ?_ (by assumption) ?_
      refine HExt.tr ?_ (by assumption) ?_
      refine HExt.tr ?_ (by assumption) ?_
      refine HExt.tr ?_ (by assumption) ?_
      refine HExt.push ?_
      · exact HExt.refl _ _
      · intro _ h; cases h; done
      · intro _ h; cases h; done
      · simp; omega
      · simp; omega
      · simp; omega
      · exact .inr (by omega)
      · intro _ h; cases h; done
      · exact .inr (by omega)
      simp only [beq_true, beq_false, Bool.not_true, Bool.not_false, Bool.not_eq_true', Bool.not_eq_false', decide_eq_true_eq, decide_eq_false_iff_not] at b32
      refine GOps.no rfl ?_ rfl rfl ?_
      · exact beq_eq_false_iff_ne.2 (by rw [decide_eq_true (by assumption)]; decide)
      refine GOps.no rfl ?_ rfl rfl ?_
      · exact beq_eq_false_iff_ne.2 (by rw [decide_eq_true (by assumption)]; decide)
      refine GOps.no rfl ?_ rfl rfl ?_
      · exact beq_eq_false_iff_ne.2 (by rw [decide_eq_true (by assumption)]; decide)
      refine GOps.r rfl rfl rfl rfl (grd_pick_t rfl rfl ?_ rfl) ?_
      · exact decide_eq_true (by assumption)
      refine GOps.nil ?_
      refine GWP.cond_t rfl ?_ ?_
      · with_reducible rfl
      refine GWP.seq ?_
      refine GWP.region ?_
      focus
        refine GOps.r rfl rfl rfl rfl (grd_build (cs := ?_) tab_is rfl rfl rfl ?_ rfl ?_) ?_
        rotate_left 1
        · decide
        · simp [gfill, gsets, Value.cells]; rfl
      focus
        refine GOps.s rfl rfl rfl (gop_storeC (b := ?_) (cs := ?_) tab_is rfl rfl ?_ rfl rfl ?_ ?_ ?_ ?_ ?_ ?_) ?_
        rotate_left 2
        · rfl
        · rfl
        refine (Hp.at_put_ne ?_).trans ?_
        · omega
        refine (Hp.at_push_lt ?_).trans ?_
        · omega
        refine (HExt.eq (by assumption) _ ?_ ?_).trans ?_
        · omega
        · simp; omega
        refine (HExt.eq (by assumption) _ ?_ ?_).trans ?_
        · omega
        · simp; omega
        refine (HExt.eq (by assumption) _ ?_ ?_).trans ?_
        · omega
        · simp; omega
        refine (HExt.eq (by assumption) _ ?_ ?_).trans ?_
        · omega
        · intro h; cases h; done
        refine (HExt.eq (by assumption) _ ?_ ?_).trans ?_
        · simp; done
        · intro h; cases h; done
        · exact Hp.at_push_eq
        · rfl
        · decide
        · exact .inr (by simp)
        · simp [splice, Value.cells]; rfl
      refine GOps.r rfl rfl rfl rfl (grd_assign rfl rfl) ?_
      refine GOps.nil ?_
      refine GWP.ret ?_
      focus
        refine ⟨_, (.two (gres_cellNK (b := ?_) (cs := ?_) rfl rfl rfl ?_ ?_ ?_) (.one rfl)), ?_⟩
        rotate_left 2
        refine Hp.at_put_eq ?_
        · simp; omega
        · decide
        · simp [Value.cells]; rfl
      refine ⟨?_, ?_⟩
      · rfl
      refine HExt.put ?_ ?_
      refine HExt.put ?_ ?_
      refine HExt.push ?_
      refine HExt.tr ?_ (by assumption) ?_
      refine HExt.tr ?_ (by assumption) ?_
      refine HExt.tr ?_ (by assumption) ?_
      refine HExt.tr ?_ (by assumption) ?_
      refine HExt.tr ?_ (by assumption) ?_
      refine HExt.push ?_
      · exact HExt.refl _ _
      · intro _ h; cases h; done
      · intro _ h; cases h; done
      · simp; omega
      · simp; omega
      · simp; omega
      · exact .inr (by omega)
      · exact .inr (by omega)
set_option maxHeartbeats 4000000 in
set_option maxRecDepth 100000 in
set_option linter.unusedSimpArgs false in
theorem g_lread0 (H : Hp) (p : Option Addr) (n c : Nat) (L : List UInt8) (hb : BS H (.slice p n c) L) (hn : n ≤ 35184372088832) (ho : openL L = none) : GCalls Tryd.prog 6 [.slice p n c] [] H fun v H' => v = .tuple #[labV [] 0 0, .int .i64 4] ∧ HExt [] H H' := by
  have hO := fun H p n c hb hn => g_copen H p n c L hb hn
  rw [ho] at hO
  simp only [Option.getD_none, Option.isSome_none] at hO
  refine GCalls.body tab_is Tryd.func6 rfl Tryd.results6 Tryd.ntmps6 (by simp) ?_ ?_
  · first | (intro _ h; cases h; done) | (simp; done) | (simp; omega) | (intro i hi; simp at hi; rcases hi with rfl | rfl <;> omega) | (intro i hi; simp at hi; rcases hi with rfl | rfl | rfl <;> omega)
  focus
    refine GWP.seq ?_
    refine GWP.region ?_
    focus
      refine GOps.w1 rfl rfl rfl rfl (gop_alloc' (id := ?_) ?_ tab_is rfl rfl ?_) ?_
      rotate_left 1
      · rfl
      · decide
    refine GOps.r rfl rfl rfl rfl (grd_assign rfl rfl) ?_
    refine GOps.nil ?_
    refine GWP.seq ?_
    refine GWP.region ?_
    refine GOps.r rfl rfl rfl rfl (grd_move rfl rfl) ?_
    refine GOps.w rfl rfl rfl rfl (gop_call rfl Tryd.call15 rfl ?_ (hO _ _ _ _ ?_ ?_)) ?_
    · intro _ h; cases h; done
    focus
      refine BS.ext (by assumption) ?_
      refine HExt.push ?_
      · exact HExt.refl _ _
    · omega
    rintro _ Hxd5 ⟨⟨pd1, nd2, cd3, rfl, bd4⟩, xd5⟩
    have xd5l := HExt.len xd5; try simp at xd5l
    have bd4n := BS.len bd4; try simp at bd4n; try subst bd4n
    refine GOps.r rfl rfl rfl rfl (grd_move rfl rfl) ?_
    focus
      refine GOps.r rfl rfl rfl rfl (grd_extract (v := ?_) rfl rfl ?_) ?_
      rotate_left 1
      · simp only [List.getElem?_toArray, List.getElem?_cons_zero, List.getElem?_cons_succ]; rfl
    focus
      refine GOps.r rfl rfl rfl rfl (grd_extract (v := ?_) rfl rfl ?_) ?_
      rotate_left 1
      · simp only [List.getElem?_toArray, List.getElem?_cons_zero, List.getElem?_cons_succ]; rfl
    refine GOps.r rfl rfl rfl rfl (grd_assign rfl rfl) ?_
    refine GOps.r rfl rfl rfl rfl (grd_assign rfl rfl) ?_
    refine GOps.nil ?_
    refine GWP.seq ?_
    refine GWP.block ?_
    refine GWP.seq ?_
    refine GWP.region ?_
    refine GOps.r rfl rfl rfl rfl (grd_move rfl rfl) ?_
    refine GOps.r rfl rfl rfl rfl (grd_not rfl rfl) ?_
    refine GOps.r rfl rfl rfl rfl (grd_assign rfl rfl) ?_
    refine GOps.nil ?_
    refine GWP.cond_t rfl ?_ ?_
    · simp; done
    refine GWP.seq ?_
    refine GWP.region ?_
    focus
      refine GOps.r rfl rfl rfl rfl (grd_build (cs := ?_) tab_is rfl rfl rfl ?_ rfl ?_) ?_
      rotate_left 1
      · decide
      · simp [gfill, gsets, Value.cells]; rfl
    focus
      refine GOps.s rfl rfl rfl (gop_storeC (b := ?_) (cs := ?_) tab_is rfl rfl ?_ rfl rfl ?_ ?_ ?_ ?_ ?_ ?_) ?_
      rotate_left 2
      · rfl
      · rfl
      refine (HExt.eq (by assumption) _ ?_ ?_).trans ?_
      · simp; done
      · intro h; cases h; done
      · exact Hp.at_push_eq
      · rfl
      · decide
      · exact .inr (by simp)
      · simp [splice, Value.cells]; rfl
    refine GOps.r rfl rfl rfl rfl (grd_assign rfl rfl) ?_
    refine GOps.nil ?_
    refine GWP.ret ?_
    focus
      refine ⟨_, (.two (gres_cellNK (b := ?_) (cs := ?_) rfl rfl rfl ?_ ?_ ?_) (.one rfl)), ?_⟩
      rotate_left 2
      refine Hp.at_put_eq ?_
      · omega
      · decide
      · simp [Value.cells]; rfl
    refine ⟨?_, ?_⟩
    · rfl
    refine HExt.put ?_ ?_
    refine HExt.tr ?_ (by assumption) ?_
    refine HExt.push ?_
    · exact HExt.refl _ _
    · intro _ h; cases h; done
    · exact .inr (by omega)
set_option maxHeartbeats 4000000 in
set_option maxRecDepth 100000 in
set_option linter.unusedSimpArgs false in
theorem g_lread1 (H : Hp) (p : Option Addr) (n c : Nat) (L : List UInt8) (hb : BS H (.slice p n c) L) (hn : n ≤ 35184372088832) (ho : openL L = some []) : GCalls Tryd.prog 6 [.slice p n c] [] H fun v H' => v = .tuple #[labV [] 0 0, .int .i64 3] ∧ HExt [] H H' := by
  have hO := fun H p n c hb hn => g_copen H p n c L hb hn
  rw [ho] at hO
  simp only [Option.getD_some, Option.isSome_some] at hO
  refine GCalls.body tab_is Tryd.func6 rfl Tryd.results6 Tryd.ntmps6 (by simp) ?_ ?_
  · first | (intro _ h; cases h; done) | (simp; done) | (simp; omega) | (intro i hi; simp at hi; rcases hi with rfl | rfl <;> omega) | (intro i hi; simp at hi; rcases hi with rfl | rfl | rfl <;> omega)
  focus
    refine GWP.seq ?_
    refine GWP.region ?_
    focus
      refine GOps.w1 rfl rfl rfl rfl (gop_alloc' (id := ?_) ?_ tab_is rfl rfl ?_) ?_
      rotate_left 1
      · rfl
      · decide
    refine GOps.r rfl rfl rfl rfl (grd_assign rfl rfl) ?_
    refine GOps.nil ?_
    refine GWP.seq ?_
    refine GWP.region ?_
    refine GOps.r rfl rfl rfl rfl (grd_move rfl rfl) ?_
    refine GOps.w rfl rfl rfl rfl (gop_call rfl Tryd.call15 rfl ?_ (hO _ _ _ _ ?_ ?_)) ?_
    · intro _ h; cases h; done
    focus
      refine BS.ext (by assumption) ?_
      refine HExt.push ?_
      · exact HExt.refl _ _
    · omega
    rintro _ Hxe5 ⟨⟨pe1, ne2, ce3, rfl, be4⟩, xe5⟩
    have xe5l := HExt.len xe5; try simp at xe5l
    have be4n := BS.len be4; try simp at be4n; try subst be4n
    refine GOps.r rfl rfl rfl rfl (grd_move rfl rfl) ?_
    focus
      refine GOps.r rfl rfl rfl rfl (grd_extract (v := ?_) rfl rfl ?_) ?_
      rotate_left 1
      · simp only [List.getElem?_toArray, List.getElem?_cons_zero, List.getElem?_cons_succ]; rfl
    focus
      refine GOps.r rfl rfl rfl rfl (grd_extract (v := ?_) rfl rfl ?_) ?_
      rotate_left 1
      · simp only [List.getElem?_toArray, List.getElem?_cons_zero, List.getElem?_cons_succ]; rfl
    refine GOps.r rfl rfl rfl rfl (grd_assign rfl rfl) ?_
    refine GOps.r rfl rfl rfl rfl (grd_assign rfl rfl) ?_
    refine GOps.nil ?_
    refine GWP.seq ?_
    refine GWP.block ?_
    refine GWP.seq ?_
    refine GWP.region ?_
    refine GOps.r rfl rfl rfl rfl (grd_move rfl rfl) ?_
    refine GOps.r rfl rfl rfl rfl (grd_not rfl rfl) ?_
    refine GOps.r rfl rfl rfl rfl (grd_assign rfl rfl) ?_
    refine GOps.nil ?_
    refine GWP.cond_f rfl ?_ ?_
    · simp; done
    refine GWP.seq ?_
    refine GWP.region ?_
    refine GOps.r rfl rfl rfl rfl (grd_move rfl rfl) ?_
    refine GOps.r rfl rfl rfl rfl (grd_len tab_is rfl rfl rfl rfl rfl) ?_
    refine GOps.r rfl rfl rfl rfl (grd_eql rfl rfl rfl) ?_
    refine GOps.r rfl rfl rfl rfl (grd_move rfl rfl) ?_
    refine GOps.no rfl ?_ rfl rfl ?_
    · simp; done
    refine GOps.no rfl ?_ rfl rfl ?_
    · simp; done
    refine GOps.no rfl ?_ rfl rfl ?_
    · simp; done
    refine GOps.no rfl ?_ rfl rfl ?_
    · simp; done
    refine GOps.r rfl rfl rfl rfl (grd_pick_t rfl rfl ?_ rfl) ?_
    · exact decide_eq_true (by omega)
    refine GOps.r rfl rfl rfl rfl (grd_assign rfl rfl) ?_
    refine GOps.nil ?_
    refine GWP.cond_t rfl ?_ ?_
    · with_reducible rfl
    refine GWP.seq ?_
    refine GWP.region ?_
    focus
      refine GOps.r rfl rfl rfl rfl (grd_build (cs := ?_) tab_is rfl rfl rfl ?_ rfl ?_) ?_
      rotate_left 1
      · decide
      · simp [gfill, gsets, Value.cells]; rfl
    focus
      refine GOps.s rfl rfl rfl (gop_storeC (b := ?_) (cs := ?_) tab_is rfl rfl ?_ rfl rfl ?_ ?_ ?_ ?_ ?_ ?_) ?_
      rotate_left 2
      · rfl
      · rfl
      refine (HExt.eq (by assumption) _ ?_ ?_).trans ?_
      · simp; done
      · intro h; cases h; done
      · exact Hp.at_push_eq
      · rfl
      · decide
      · exact .inr (by simp)
      · simp [splice, Value.cells]; rfl
    refine GOps.r rfl rfl rfl rfl (grd_assign rfl rfl) ?_
    refine GOps.nil ?_
    refine GWP.ret ?_
    focus
      refine ⟨_, (.two (gres_cellNK (b := ?_) (cs := ?_) rfl rfl rfl ?_ ?_ ?_) (.one rfl)), ?_⟩
      rotate_left 2
      refine Hp.at_put_eq ?_
      · omega
      · decide
      · simp [Value.cells]; rfl
    refine ⟨?_, ?_⟩
    · rfl
    refine HExt.put ?_ ?_
    refine HExt.tr ?_ (by assumption) ?_
    refine HExt.push ?_
    · exact HExt.refl _ _
    · intro _ h; cases h; done
    · exact .inr (by omega)
set_option maxHeartbeats 4000000 in
set_option maxRecDepth 100000 in
set_option linter.unusedSimpArgs false in
theorem g_lread2 (H : Hp) (p : Option Addr) (n c : Nat) (L M : List UInt8) (k : UInt8) (hb : BS H (.slice p n c) L) (hn : n ≤ 35184372088832) (ho : openL L = some (k :: M)) (hk : k.toNat ≠ 76) : GCalls Tryd.prog 6 [.slice p n c] [] H fun v H' => v = .tuple #[labV [] 0 0, .int .i64 3] ∧ HExt [] H H' := by
  have hO := fun H p n c hb hn => g_copen H p n c L hb hn
  rw [ho] at hO
  simp only [Option.getD_some, Option.isSome_some] at hO
  refine GCalls.body tab_is Tryd.func6 rfl Tryd.results6 Tryd.ntmps6 (by simp) ?_ ?_
  · first | (intro _ h; cases h; done) | (simp; done) | (simp; omega) | (intro i hi; simp at hi; rcases hi with rfl | rfl <;> omega) | (intro i hi; simp at hi; rcases hi with rfl | rfl | rfl <;> omega)
  focus
    refine GWP.seq ?_
    refine GWP.region ?_
    focus
      refine GOps.w1 rfl rfl rfl rfl (gop_alloc' (id := ?_) ?_ tab_is rfl rfl ?_) ?_
      rotate_left 1
      · rfl
      · decide
    refine GOps.r rfl rfl rfl rfl (grd_assign rfl rfl) ?_
    refine GOps.nil ?_
    refine GWP.seq ?_
    refine GWP.region ?_
    refine GOps.r rfl rfl rfl rfl (grd_move rfl rfl) ?_
    refine GOps.w rfl rfl rfl rfl (gop_call rfl Tryd.call15 rfl ?_ (hO _ _ _ _ ?_ ?_)) ?_
    · intro _ h; cases h; done
    focus
      refine BS.ext (by assumption) ?_
      refine HExt.push ?_
      · exact HExt.refl _ _
    · omega
    rintro _ Hxf5 ⟨⟨pf1, nf2, cf3, rfl, bf4⟩, xf5⟩
    have xf5l := HExt.len xf5; try simp at xf5l
    have bf4n := BS.len bf4; try simp at bf4n; try subst bf4n
    refine GOps.r rfl rfl rfl rfl (grd_move rfl rfl) ?_
    focus
      refine GOps.r rfl rfl rfl rfl (grd_extract (v := ?_) rfl rfl ?_) ?_
      rotate_left 1
      · simp only [List.getElem?_toArray, List.getElem?_cons_zero, List.getElem?_cons_succ]; rfl
    focus
      refine GOps.r rfl rfl rfl rfl (grd_extract (v := ?_) rfl rfl ?_) ?_
      rotate_left 1
      · simp only [List.getElem?_toArray, List.getElem?_cons_zero, List.getElem?_cons_succ]; rfl
    refine GOps.r rfl rfl rfl rfl (grd_assign rfl rfl) ?_
    refine GOps.r rfl rfl rfl rfl (grd_assign rfl rfl) ?_
    refine GOps.nil ?_
    refine GWP.seq ?_
    refine GWP.block ?_
    refine GWP.seq ?_
    refine GWP.region ?_
    refine GOps.r rfl rfl rfl rfl (grd_move rfl rfl) ?_
    refine GOps.r rfl rfl rfl rfl (grd_not rfl rfl) ?_
    refine GOps.r rfl rfl rfl rfl (grd_assign rfl rfl) ?_
    refine GOps.nil ?_
    refine GWP.cond_f rfl ?_ ?_
    · simp; done
    refine GWP.seq ?_
    refine GWP.region ?_
    refine GOps.r rfl rfl rfl rfl (grd_move rfl rfl) ?_
    refine GOps.r rfl rfl rfl rfl (grd_len tab_is rfl rfl rfl rfl rfl) ?_
    refine GOps.r rfl rfl rfl rfl (grd_eql rfl rfl rfl) ?_
    refine GOps.r rfl rfl rfl rfl (grd_move rfl rfl) ?_
    refine GOps.take rfl rfl ?_ ?_
    · simp; omega
    refine GOps.r rfl rfl rfl rfl (grd_move rfl rfl) ?_
    refine GOps.take rfl rfl ?_ ?_
    · simp; omega
    focus
      refine GOps.r rfl rfl rfl rfl (grd_indexBS (q := ?_) (L := ?_) tab_is rfl rfl rfl rfl rfl ?_ ?_ ?_) ?_
      rotate_left 2
      · assumption
      · rfl
      · exact Nat.le_of_ble_eq_true rfl
    refine GOps.take rfl rfl ?_ ?_
    · simp; omega
    focus
      refine GOps.re rfl rfl rfl rfl (grd_loadBSK (n := ?_) (c := ?_) (L := ?_) (u := ?_) tab_is rfl rfl rfl rfl ?_ ?_ ?_) ?_
      rotate_left 4
      · assumption
      · exact Nat.le_of_ble_eq_true rfl
      · simp only [List.getD_cons_zero]; rfl
    refine GOps.take rfl rfl ?_ ?_
    · simp; omega
    refine GOps.r rfl rfl rfl rfl (grd_neq rfl rfl rfl) ?_
    refine GOps.r rfl rfl rfl rfl (grd_pick_f rfl rfl ?_ rfl) ?_
    · exact decide_eq_false (by omega)
    refine GOps.r rfl rfl rfl rfl (grd_assign rfl rfl) ?_
    refine GOps.nil ?_
    refine GWP.cond_t rfl ?_ ?_
    · exact decide_eq_true (by omega)
    refine GWP.seq ?_
    refine GWP.region ?_
    focus
      refine GOps.r rfl rfl rfl rfl (grd_build (cs := ?_) tab_is rfl rfl rfl ?_ rfl ?_) ?_
      rotate_left 1
      · decide
      · simp [gfill, gsets, Value.cells]; rfl
    focus
      refine GOps.s rfl rfl rfl (gop_storeC (b := ?_) (cs := ?_) tab_is rfl rfl ?_ rfl rfl ?_ ?_ ?_ ?_ ?_ ?_) ?_
      rotate_left 2
      · rfl
      · rfl
      refine (HExt.eq (by assumption) _ ?_ ?_).trans ?_
      · simp; done
      · intro h; cases h; done
      · exact Hp.at_push_eq
      · rfl
      · decide
      · exact .inr (by simp)
      · simp [splice, Value.cells]; rfl
    refine GOps.r rfl rfl rfl rfl (grd_assign rfl rfl) ?_
    refine GOps.nil ?_
    refine GWP.ret ?_
    focus
      refine ⟨_, (.two (gres_cellNK (b := ?_) (cs := ?_) rfl rfl rfl ?_ ?_ ?_) (.one rfl)), ?_⟩
      rotate_left 2
      refine Hp.at_put_eq ?_
      · omega
      · decide
      · simp [Value.cells]; rfl
    refine ⟨?_, ?_⟩
    · rfl
    refine HExt.put ?_ ?_
    refine HExt.tr ?_ (by assumption) ?_
    refine HExt.push ?_
    · exact HExt.refl _ _
    · intro _ h; cases h; done
    · exact .inr (by omega)
end Go.Proofs.YtjoblmdfbddkeaaDoor

/- Numbers and texts as bytes, on the ghost side. -/
namespace Go.Proofs.YtjoblmdfbddkeaaDoor
open Go.RowKit

/-- A byte in a row of its own. -/
theorem gsrc_b1 {T : Tab} {env : Env} {H : Hp} {y : Operand} {xt : TypeId} {i : TyI} {e by_ j c : Nat} {zr' zr : List Value} {b : Blk} {u : UInt8} {M : List UInt8} (ht : T xt = some i) (hd : i.d = .slice e 1 by_ zr') (hx : geval env y = some (.slice (some ⟨j, 0, none⟩) 1 c)) (hb : H.at j = some b) (_hz : b.z = 1) (hu : b.cs = [.int .u8 (u.toNat : Int)]) (hM : [u] = M) : GSrc T env H y xt 1 zr 1 (vb M) := by
  subst hM
  have := GSrc.slice (z := 1) (zr := zr) ht hd hx hb (by rw [hu]; simp)
  rw [hu] at this
  exact this
theorem bs_b1 {H : Hp} {j c : Nat} {b : Blk} {u : UInt8} {M : List UInt8} (hb : H.at j = some b) (hz : b.z = 1) (hu : b.cs = [.int .u8 (u.toNat : Int)]) (hM : [u] = M) : BS H (.slice (some ⟨j, 0, none⟩) 1 c) M := by
  subst hM
  exact bs_blk hb hz (by rw [hu]; rfl) rfl (by rw [hu]; simp) (by rw [hu]; rfl)
set_option maxHeartbeats 4000000 in
set_option maxRecDepth 100000 in
set_option linter.unusedSimpArgs false in
theorem g_clip (H : Hp) (p : Option Addr) (n c : Nat) (L : List UInt8) (hb : BS H (.slice p n c) L) : GCalls Tryd.prog 37 [.slice p n c] [] H fun v H' => v = .slice p n n ∧ H' = H := by
  refine GCalls.of (R := fun v => v = .slice p n n) fun μ w rargs hs hv => ?_
  obtain ⟨rv, rfl, hv2⟩ := vrs_one hv
  cases hb with
  | none =>
    cases hv2
    exact (clip_any none 0 0 w (Nat.le_refl _) (Nat.zero_le _)).mono fun e w' ⟨e1, e2⟩ => ⟨_, _, e1, rfl, .sl0, by subst e2; exact Below.refl _ _⟩
  | some hb hs' hl ho hu =>
    cases hv2 with
    | sl hL hn hm hc hu2 ha =>
      rename_i c' a M
      exact (clip_any (some a) n c' w hn hm).mono fun e w' ⟨e1, e2⟩ => ⟨_, _, e1, rfl, .sl hL (Nat.le_refl _) (by omega) (fun _ => rfl) (fun h => by unfold capU at h; unfold maxLen at hm; omega) (fun h => ha (by omega)), by subst e2; exact Below.refl _ _⟩
theorem bs_recap {H : Hp} {p : Option Addr} {n c : Nat} {L : List UInt8} (h : BS H (.slice p n c) L) : BS H (.slice p n n) L := by
  cases h with
  | none => exact .none
  | some hb hs hl ho hu => exact .some hb hs hl ho hu
theorem grd_quoU {P : Program} {o : Oper} {env : Env} {H : Hp} {x y : Operand} {t yt : TypeId} {a b : Int} (ho : o.op = .binOp .quo t x y yt) (hx : geval env x = some (.int .u64 a)) (hy : geval env y = some (.int .u64 b)) (h0 : 0 < b) (ha : 0 ≤ a ∧ a < 18446744073709551616) : GRd P o env H (.int .u64 (a / b)) [] := by
  have h1 := grd_quo (P := P) (H := H) ho hx hy (by omega)
  rw [Int.tdiv_eq_ediv_of_nonneg ha.1, IntKind.wrap_u64, Int.emod_eq_of_lt (Int.ediv_nonneg ha.1 (Int.le_of_lt h0)) (by have := Int.ediv_le_self b ha.1; omega)] at h1
  exact h1
/-- Bytes, as far as they were put. -/
def putV (p : Option Addr) (n : Nat) (o : Option Nat) (D : List UInt8) : Value := match o with
  | none => .slice p n n
  | some id => .slice (some ⟨id, 0, none⟩) D.length capU
def putI (H : Hp) (p : Option Addr) (n : Nat) (B : List UInt8) (o : Option Nat) (D : List UInt8) (H' : Hp) : Prop := match o with
  | none => D = B ∧ BS H' (.slice p n n) B ∧ HExt [] H H'
  | some id => 0 < D.length ∧ H.length ≤ id ∧ H'.at id = some ⟨5, 1, vb D, true⟩ ∧ HExt [] H H'
theorem encs_drop2 {l : List Nat} {k N : Nat} (h : l[k]? = some N) : encs (l.drop k) = enc N ++ encs (l.drop (k + 1)) := by
  obtain ⟨hk, rfl⟩ := List.getElem?_eq_some_iff.1 h
  rw [List.drop_eq_getElem_cons hk, encs_cons]
theorem low_u8 (N : Nat) : IntKind.u8.wrap (N : Int) = ((UInt8.ofNat N).toNat : Int) := by
  rw [IntKind.wrap_u8]
  simp
theorem more_u8 (N : Nat) : bits .or .u8 (IntKind.u8.wrap (N : Int)) 128 = ((UInt8.ofNat (N % 128 + 128)).toNat : Int) := by
  rw [IntKind.wrap_u8, bits_more]
  simp
  omega
theorem shr7 (N : Nat) : (N : Int).fdiv (2 ^ (min (Int.toNat 7) (IntKind.bits .u64))) = ((N / 128 : Nat) : Int) := by
  show (N : Int).fdiv (2 ^ 7) = _
  rw [Int.fdiv_eq_ediv_of_nonneg _ (by decide)]
  simp
set_option maxHeartbeats 4000000 in
set_option maxRecDepth 100000 in
set_option linter.unusedSimpArgs false in
theorem g_put (H : Hp) (p : Option Addr) (n c : Nat) (B : List UInt8) (hb : BS H (.slice p n c) B) (j cm : Nat) (l : List Nat) (t : TypeId) (rw : Bool) (cs : List Value) (hj : H.at j = some ⟨t, 1, cs, rw⟩) (hcs : cs = l.map (fun x : Nat => Value.int .u64 (x : Int))) (hlt : ∀ x ∈ l, x < 18446744073709551616) (hsz : (B ++ encs l).length ≤ 70368744177664) (hl0 : 0 < l.length) (hl1 : l.length ≤ 70368744177664) :
    GCalls Tryd.prog 25 [.slice p n c, .slice (some ⟨j, 0, none⟩) l.length cm] [] H fun v H' => (∃ id, v = .slice (some ⟨id, 0, none⟩) (B ++ encs l).length capU ∧ H.length ≤ id ∧ H'.at id = some ⟨5, 1, vb (B ++ encs l), true⟩) ∧ HExt [] H H' := by
  subst hcs
  have hn := hb.len
  subst hn
  have hjl := Hp.at_lt hj
  have hb2 := bs_recap hb
  generalize hT : B ++ encs l = T at hsz ⊢
  have hBT : B.length ≤ T.length := by rw [← hT, List.length_append]; omega
  refine GCalls.body tab_is Tryd.func25 rfl Tryd.results25 Tryd.ntmps25 (by simp) ?_ ?_
  · first | (intro _ h; cases h; done) | (simp; done) | (simp; omega) | (intro i hi; simp at hi; rcases hi with rfl | rfl <;> omega) | (intro i hi; simp at hi; rcases hi with rfl | rfl | rfl <;> omega)
  focus
    refine GWP.seq ?_
    refine GWP.region ?_
    refine GOps.r rfl rfl rfl rfl (grd_assign rfl rfl) ?_
    refine GOps.nil ?_
    refine GWP.seq ?_
    refine GWP.region ?_
    refine GOps.r rfl rfl rfl rfl (grd_move rfl rfl) ?_
    refine GOps.w1 rfl rfl rfl rfl (gop_call rfl Tryd.call37 rfl ?_ (g_clip H p _ c B hb)) ?_
    · intro _ h; cases h; done
    refine GOps.r rfl rfl rfl rfl (grd_assign rfl rfl) ?_
    refine GOps.nil ?_
    refine GWP.seq ?_
    refine GWP.seq ?_
    refine GWP.region ?_
    refine GOps.r rfl rfl rfl rfl (grd_move rfl rfl) ?_
    refine GOps.r rfl rfl rfl rfl (grd_len tab_is rfl rfl rfl rfl rfl) ?_
    refine GOps.r rfl rfl rfl rfl (grd_move rfl rfl) ?_
    refine GOps.nil ?_
    refine GWP.block ?_
  refine GWP.loop (α := Option Nat × List UInt8 × Nat) (fun x => [(0, putV p B.length x.1 x.2.1), (9, .slice (some ⟨j, 0, none⟩) l.length cm), (10, .int .i64 (l.length : Int)), (11, .int .i64 (x.2.2 : Int))]) (fun x H' => x.2.2 ≤ l.length ∧ x.2.1 ++ encs (l.drop x.2.2) = T ∧ (x.1 = none → x.2.2 = 0) ∧ putI H p B.length B x.1 x.2.1 H') (fun x => l.length - x.2.2) (none, B, 0) ?_ ⟨Nat.zero_le _, hT, fun _ => rfl, rfl, hb2, HExt.refl _ _⟩ ?_
  ·
    repeat (first | exact Env.sub_nil | refine Env.sub_cons rfl ?_ | (refine Env.sub_cons (congrArg some ?_) ?_; (· first | rfl | go_num | (simp; done))))
  rintro ⟨o, D, k⟩ H' ⟨hk, hD, ho, hI⟩
  simp only at hk hD ho hI ⊢
  by_cases hkl : k < l.length
  · obtain ⟨N, hN⟩ : ∃ N, l[k]? = some N := ⟨_, List.getElem?_eq_getElem hkl⟩
    have hN64 := hlt N (List.mem_of_getElem? hN)
    have hcell : (l.map (fun x : Nat => Value.int .u64 (x : Int)))[0 + k]? = some (.int .u64 (N : Int)) := by rw [Nat.zero_add, List.getElem?_map, hN]; rfl
    have hx : HExt [] H H' := by
      cases o with
      | none => exact hI.2.2
      | some id => exact hI.2.2.2
    have hxl := hx.len
    have hj' : H'.at j = some ⟨t, 1, l.map (fun x : Nat => Value.int .u64 (x : Int)), rw⟩ := (hx.eq j hjl (by intro h; cases h)).trans hj
    rw [encs_drop2 hN] at hD
    focus
      refine GWP.seq ?_
      refine GWP.region ?_
      refine GOps.r rfl rfl rfl rfl (grd_lss rfl rfl rfl) ?_
      refine GOps.nil ?_
      refine GWP.seq ?_
      refine GWP.cond_t rfl ?_ ?_
      · exact decide_eq_true (by omega)
      refine GWP.skip ?_
      refine GWP.seq ?_
      refine GWP.block ?_
      refine GWP.seq ?_
      refine GWP.region ?_
      refine GOps.r rfl rfl rfl rfl (grd_indexAddr1 tab_is rfl rfl rfl rfl rfl ?_) ?_
      · omega
      focus
        refine GOps.r rfl rfl rfl rfl (grd_load1 (b := ?_) (v := ?_) tab_is rfl rfl rfl rfl ?_ ?_) ?_
        rotate_left 2
        · assumption
        · assumption
      refine GOps.r rfl rfl rfl rfl (grd_assign rfl rfl) ?_
      refine GOps.nil ?_
      refine GWP.seq ?_
      refine GWP.block ?_
    refine GWP.loop (α := Option Nat × List UInt8 × Nat) (fun x => [(0, putV p B.length x.1 x.2.1), (6, .int .u64 (x.2.2 : Int)), (9, .slice (some ⟨j, 0, none⟩) l.length cm), (10, .int .i64 (l.length : Int)), (11, .int .i64 (k : Int))]) (fun x H2 => x.2.1 ++ (enc x.2.2 ++ encs (l.drop (k + 1))) = T ∧ x.2.2 < 18446744073709551616 ∧ putI H p B.length B x.1 x.2.1 H2) (fun x => x.2.2) (o, D, N) ?_ ⟨hD, hN64, hI⟩ ?_
    ·
      repeat (first | exact Env.sub_nil | refine Env.sub_cons rfl ?_ | (refine Env.sub_cons (congrArg some ?_) ?_; (· first | rfl | go_num | (simp; done))))
    rintro ⟨o2, D2, N2⟩ H2 ⟨hD2, hN2, hI2⟩
    simp only at hD2 hN2 hI2 ⊢
    have hlo := low_u8 N2
    have hmo := more_u8 N2
    have hdl : D2.length + 1 ≤ T.length := by
      have := enc_pos N2
      rw [← hD2, List.length_append, List.length_append]
      omega
    by_cases h128 : 128 ≤ N2
    · rw [enc_ge (by omega)] at hD2
      cases o2 with
      | none =>
        obtain ⟨rfl, hb3, hx3⟩ := hI2
        have hl3 := hx3.len
        simp only [putV]
        focus
          refine GWP.seq ?_
          refine GWP.seq ?_
          refine GWP.region ?_
          refine GOps.r rfl rfl rfl rfl (grd_move rfl rfl) ?_
          refine GOps.r rfl rfl rfl rfl (grd_geq rfl rfl rfl) ?_
          refine GOps.nil ?_
          refine GWP.cond_t rfl ?_ ?_
          · exact decide_eq_true (by omega)
          refine GWP.skip ?_
          refine GWP.seq ?_
          refine GWP.block ?_
          refine GWP.region ?_
          refine GOps.r rfl rfl rfl rfl (grd_move rfl rfl) ?_
          refine GOps.r rfl rfl rfl rfl (grd_move rfl rfl) ?_
          refine GOps.r rfl rfl rfl rfl (grd_conv tab_is rfl rfl rfl rfl rfl) ?_
          refine GOps.r rfl rfl rfl rfl (grd_bits .or (.inr (.inl rfl)) rfl rfl rfl) ?_
          focus
            refine GOps.w1 rfl rfl rfl rfl (gop_lit (id := ?_) (cs := ?_) ?_ tab_is rfl rfl rfl ?_ ?_ rfl ?_ ?_) ?_
            rotate_left 2
            · rfl
            · decide
            · decide
            · simp [gfill, gsets, Value.cells]; rfl
            · rfl
          focus
            refine GOps.w1 rfl rfl rfl rfl (gop_fullB (id := ?_) (L := ?_) (M := ?_) (K := ?_) ?_ tab_is rfl rfl rfl rfl ?_ ?_ ?_ (gsrc_b1 (b := ?_) (u := ?_) rfl rfl rfl ?_ ?_ ?_ ?_) ?_ ?_ ?_ ?_) ?_
            rotate_left 4
            · simp; rfl
            focus
              refine BS.ext (by assumption) ?_
              refine HExt.push ?_
              · exact HExt.refl _ _
            · unfold capU; omega
            · omega
            rotate_left 2
            · exact Hp.at_push_eq
            · rfl
            · exact congrArg (fun z : Int => [Value.int .u8 z]) (by assumption)
            · rfl
            · rfl
            · rfl
            · omega
            · omega
          refine GOps.r rfl rfl rfl rfl (grd_assign rfl rfl) ?_
          refine GOps.nil ?_
          refine GWP.region ?_
          refine GOps.r rfl rfl rfl rfl (grd_move rfl rfl) ?_
          refine GOps.r rfl rfl rfl rfl (grd_shr rfl rfl rfl ?_) ?_
          · omega
          refine GOps.r rfl rfl rfl rfl (grd_assign rfl rfl) ?_
          refine GOps.nil ?_
        simp only [shr7]
        refine ⟨(some (H2.length + 1), D2 ++ [UInt8.ofNat (N2 % 128 + 128)], N2 / 128), ?_, ⟨by simpa using hD2, by simp only; omega, by simp, by omega, ?_, ?_⟩, by simp only; omega⟩
        · simp only [putV, List.length_append, List.length_singleton]
          repeat (first | exact Env.sub_nil | refine Env.sub_cons rfl ?_ | (refine Env.sub_cons (congrArg some ?_) ?_; (· first | rfl | go_num | (simp; done))))
        · ((repeat (first | (refine (killO_ne ?_).trans ?_; (· (intro hq; first | (have := lt_io _ hq; first | omega | (simp; omega)) | (have := lt_ig _ hq; first | omega | (simp; omega))))) | (refine (Hp.at_put_ne ?_).trans ?_; (· (first | assumption | (exact Ne.symm (by assumption)) | omega | (simp; done) | (simp; omega)))) | (refine (Hp.at_push_lt ?_).trans ?_; (· (first | assumption | omega | (simp; done) | (simp; omega)))) | (refine (Hp.at_kill_ne ?_).trans ?_; (· (first | assumption | (exact Ne.symm (by assumption)) | omega | (simp; done) | (simp; omega)))) | (refine (HExt.eq (by assumption) _ ?_ ?_).trans ?_; (· (first | assumption | omega | (simp; done) | (simp; omega))); (· (first | (intro h; cases h; done) | (simp; done) | (simp; omega)))))); (first | assumption | exact Hp.at_push_eq | (refine Hp.at_push_id ?_; (· (first | rfl | assumption | omega | (simp; done) | (simp; omega)))) | (refine Hp.at_put_eq ?_; (· (first | assumption | omega | (simp; done) | (simp; omega)))) | (refine Hp.at_put_id ?_ ?_; (· (first | rfl | assumption | omega | (simp; done) | (simp; omega))); (· (first | assumption | omega | (simp; done) | (simp; omega))))))
        ·
          repeat (first | exact HExt.refl _ _ | assumption | refine HExt.push ?_ | (refine HExt.put ?_ ?_; rotate_left 1; (· first | (refine .inr ?_; first | omega | (simp; done) | (simp; omega)) | (refine .inl ?_; simp))) | (refine HExt.kill ?_ ?_; rotate_left 1; (· first | (refine .inr ?_; first | omega | (simp; done) | (simp; omega)) | (refine .inl ?_; simp))) | (refine HExt.tr ?_ (by assumption) ?_; rotate_left 1; (· first | (intro _ h; cases h; done) | (simp; done) | (simp; omega))))
      | some id =>
        obtain ⟨hd0, hid, hat, hx3⟩ := hI2
        have hl3 := hx3.len
        have hidl := Hp.at_lt hat
        simp only [putV]
        focus
          refine GWP.seq ?_
          refine GWP.seq ?_
          refine GWP.region ?_
          refine GOps.r rfl rfl rfl rfl (grd_move rfl rfl) ?_
          refine GOps.r rfl rfl rfl rfl (grd_geq rfl rfl rfl) ?_
          refine GOps.nil ?_
          refine GWP.cond_t rfl ?_ ?_
          · exact decide_eq_true (by omega)
          refine GWP.skip ?_
          refine GWP.seq ?_
          refine GWP.block ?_
          refine GWP.region ?_
          refine GOps.r rfl rfl rfl rfl (grd_move rfl rfl) ?_
          refine GOps.r rfl rfl rfl rfl (grd_move rfl rfl) ?_
          refine GOps.r rfl rfl rfl rfl (grd_conv tab_is rfl rfl rfl rfl rfl) ?_
          refine GOps.r rfl rfl rfl rfl (grd_bits .or (.inr (.inl rfl)) rfl rfl rfl) ?_
          focus
            refine GOps.w1 rfl rfl rfl rfl (gop_lit (id := ?_) (cs := ?_) ?_ tab_is rfl rfl rfl ?_ ?_ rfl ?_ ?_) ?_
            rotate_left 2
            · rfl
            · decide
            · decide
            · simp [gfill, gsets, Value.cells]; rfl
            · rfl
          focus
            refine GOps.w1 rfl rfl rfl rfl (gop_ownB (id := ?_) (b := ?_) (L := ?_) (M := ?_) (K := ?_) ?_ tab_is rfl rfl rfl rfl ?_ ?_ ?_ ?_ ?_ ?_ ?_ (gsrc_b1 (b := ?_) (u := ?_) rfl rfl rfl ?_ ?_ ?_ ?_) ?_ ?_ ?_ ?_) ?_
            rotate_left 5
            · simp; rfl
            refine (Hp.at_push_lt ?_).trans ?_
            · omega
            · assumption
            · rfl
            · rfl
            · rfl
            · rfl
            · omega
            · exact .inr (by omega)
            rotate_left 2
            · exact Hp.at_push_eq
            · rfl
            · exact congrArg (fun z : Int => [Value.int .u8 z]) (by assumption)
            · rfl
            · rfl
            · rfl
            · omega
            · omega
          refine GOps.r rfl rfl rfl rfl (grd_assign rfl rfl) ?_
          refine GOps.nil ?_
          refine GWP.region ?_
          refine GOps.r rfl rfl rfl rfl (grd_move rfl rfl) ?_
          refine GOps.r rfl rfl rfl rfl (grd_shr rfl rfl rfl ?_) ?_
          · omega
          refine GOps.r rfl rfl rfl rfl (grd_assign rfl rfl) ?_
          refine GOps.nil ?_
        simp only [shr7]
        refine ⟨(some (H2.length + 1), D2 ++ [UInt8.ofNat (N2 % 128 + 128)], N2 / 128), ?_, ⟨by simpa using hD2, by simp only; omega, by simp, by omega, ?_, ?_⟩, by simp only; omega⟩
        · simp only [putV, List.length_append, List.length_singleton]
          repeat (first | exact Env.sub_nil | refine Env.sub_cons rfl ?_ | (refine Env.sub_cons (congrArg some ?_) ?_; (· first | rfl | go_num | (simp; done))))
        · ((repeat (first | (refine (killO_ne ?_).trans ?_; (· (intro hq; first | (have := lt_io _ hq; first | omega | (simp; omega)) | (have := lt_ig _ hq; first | omega | (simp; omega))))) | (refine (Hp.at_put_ne ?_).trans ?_; (· (first | assumption | (exact Ne.symm (by assumption)) | omega | (simp; done) | (simp; omega)))) | (refine (Hp.at_push_lt ?_).trans ?_; (· (first | assumption | omega | (simp; done) | (simp; omega)))) | (refine (Hp.at_kill_ne ?_).trans ?_; (· (first | assumption | (exact Ne.symm (by assumption)) | omega | (simp; done) | (simp; omega)))) | (refine (HExt.eq (by assumption) _ ?_ ?_).trans ?_; (· (first | assumption | omega | (simp; done) | (simp; omega))); (· (first | (intro h; cases h; done) | (simp; done) | (simp; omega)))))); (first | assumption | exact Hp.at_push_eq | (refine Hp.at_push_id ?_; (· (first | rfl | assumption | omega | (simp; done) | (simp; omega)))) | (refine Hp.at_put_eq ?_; (· (first | assumption | omega | (simp; done) | (simp; omega)))) | (refine Hp.at_put_id ?_ ?_; (· (first | rfl | assumption | omega | (simp; done) | (simp; omega))); (· (first | assumption | omega | (simp; done) | (simp; omega))))))
        ·
          repeat (first | exact HExt.refl _ _ | assumption | refine HExt.push ?_ | (refine HExt.put ?_ ?_; rotate_left 1; (· first | (refine .inr ?_; first | omega | (simp; done) | (simp; omega)) | (refine .inl ?_; simp))) | (refine HExt.kill ?_ ?_; rotate_left 1; (· first | (refine .inr ?_; first | omega | (simp; done) | (simp; omega)) | (refine .inl ?_; simp))) | (refine HExt.tr ?_ (by assumption) ?_; rotate_left 1; (· first | (intro _ h; cases h; done) | (simp; done) | (simp; omega))))
    · rw [enc_lt (by omega)] at hD2
      rw [wrap_u8_in (by omega)] at hlo
      cases o2 with
      | none =>
        obtain ⟨rfl, hb3, hx3⟩ := hI2
        have hl3 := hx3.len
        simp only [putV]
        focus
          refine GWP.seq ?_
          refine GWP.seq ?_
          refine GWP.region ?_
          refine GOps.r rfl rfl rfl rfl (grd_move rfl rfl) ?_
          refine GOps.r rfl rfl rfl rfl (grd_geq rfl rfl rfl) ?_
          refine GOps.nil ?_
          refine GWP.cond_f rfl ?_ ?_
          · exact decide_eq_false (by omega)
          refine GWP.exit ?_
          refine GWP.region ?_
          refine GOps.r rfl rfl rfl rfl (grd_move rfl rfl) ?_
          refine GOps.r rfl rfl rfl rfl (grd_move rfl rfl) ?_
          refine GOps.r rfl rfl rfl rfl (grd_conv_in tab_is rfl rfl rfl rfl rfl ?_) ?_
          · refine wrap_u8_in ?_; omega
          focus
            refine GOps.w1 rfl rfl rfl rfl (gop_lit (id := ?_) (cs := ?_) ?_ tab_is rfl rfl rfl ?_ ?_ rfl ?_ ?_) ?_
            rotate_left 2
            · rfl
            · decide
            · decide
            · simp [gfill, gsets, Value.cells]; rfl
            · rfl
          focus
            refine GOps.w1 rfl rfl rfl rfl (gop_fullB (id := ?_) (L := ?_) (M := ?_) (K := ?_) ?_ tab_is rfl rfl rfl rfl ?_ ?_ ?_ (gsrc_b1 (b := ?_) (u := ?_) rfl rfl rfl ?_ ?_ ?_ ?_) ?_ ?_ ?_ ?_) ?_
            rotate_left 4
            · simp; rfl
            focus
              refine BS.ext (by assumption) ?_
              refine HExt.push ?_
              · exact HExt.refl _ _
            · unfold capU; omega
            · omega
            rotate_left 2
            · exact Hp.at_push_eq
            · rfl
            · exact congrArg (fun z : Int => [Value.int .u8 z]) (by assumption)
            · rfl
            · rfl
            · rfl
            · omega
            · omega
          refine GOps.r rfl rfl rfl rfl (grd_assign rfl rfl) ?_
          refine GOps.nil ?_
          refine GWP.region ?_
          refine GOps.r rfl rfl rfl rfl (grd_add64 rfl rfl rfl ?_) ?_
          · omega
          refine GOps.r rfl rfl rfl rfl (grd_move rfl rfl) ?_
          refine GOps.nil ?_
        refine ⟨(some (H2.length + 1), D2 ++ [UInt8.ofNat N2], k + 1), ?_, ⟨by simp only; omega, by simpa using hD2, by simp, by simp, by omega, ?_, ?_⟩, by simp only; omega⟩
        · simp only [putV, List.length_append, List.length_singleton]
          repeat (first | exact Env.sub_nil | refine Env.sub_cons rfl ?_ | (refine Env.sub_cons (congrArg some ?_) ?_; (· first | rfl | go_num | (simp; done))))
        · ((repeat (first | (refine (killO_ne ?_).trans ?_; (· (intro hq; first | (have := lt_io _ hq; first | omega | (simp; omega)) | (have := lt_ig _ hq; first | omega | (simp; omega))))) | (refine (Hp.at_put_ne ?_).trans ?_; (· (first | assumption | (exact Ne.symm (by assumption)) | omega | (simp; done) | (simp; omega)))) | (refine (Hp.at_push_lt ?_).trans ?_; (· (first | assumption | omega | (simp; done) | (simp; omega)))) | (refine (Hp.at_kill_ne ?_).trans ?_; (· (first | assumption | (exact Ne.symm (by assumption)) | omega | (simp; done) | (simp; omega)))) | (refine (HExt.eq (by assumption) _ ?_ ?_).trans ?_; (· (first | assumption | omega | (simp; done) | (simp; omega))); (· (first | (intro h; cases h; done) | (simp; done) | (simp; omega)))))); (first | assumption | exact Hp.at_push_eq | (refine Hp.at_push_id ?_; (· (first | rfl | assumption | omega | (simp; done) | (simp; omega)))) | (refine Hp.at_put_eq ?_; (· (first | assumption | omega | (simp; done) | (simp; omega)))) | (refine Hp.at_put_id ?_ ?_; (· (first | rfl | assumption | omega | (simp; done) | (simp; omega))); (· (first | assumption | omega | (simp; done) | (simp; omega))))))
        ·
          repeat (first | exact HExt.refl _ _ | assumption | refine HExt.push ?_ | (refine HExt.put ?_ ?_; rotate_left 1; (· first | (refine .inr ?_; first | omega | (simp; done) | (simp; omega)) | (refine .inl ?_; simp))) | (refine HExt.kill ?_ ?_; rotate_left 1; (· first | (refine .inr ?_; first | omega | (simp; done) | (simp; omega)) | (refine .inl ?_; simp))) | (refine HExt.tr ?_ (by assumption) ?_; rotate_left 1; (· first | (intro _ h; cases h; done) | (simp; done) | (simp; omega))))
      | some id =>
        obtain ⟨hd0, hid, hat, hx3⟩ := hI2
        have hl3 := hx3.len
        have hidl := Hp.at_lt hat
        simp only [putV]
        focus
          refine GWP.seq ?_
          refine GWP.seq ?_
          refine GWP.region ?_
          refine GOps.r rfl rfl rfl rfl (grd_move rfl rfl) ?_
          refine GOps.r rfl rfl rfl rfl (grd_geq rfl rfl rfl) ?_
          refine GOps.nil ?_
          refine GWP.cond_f rfl ?_ ?_
          · exact decide_eq_false (by omega)
          refine GWP.exit ?_
          refine GWP.region ?_
          refine GOps.r rfl rfl rfl rfl (grd_move rfl rfl) ?_
          refine GOps.r rfl rfl rfl rfl (grd_move rfl rfl) ?_
          refine GOps.r rfl rfl rfl rfl (grd_conv_in tab_is rfl rfl rfl rfl rfl ?_) ?_
          · refine wrap_u8_in ?_; omega
          focus
            refine GOps.w1 rfl rfl rfl rfl (gop_lit (id := ?_) (cs := ?_) ?_ tab_is rfl rfl rfl ?_ ?_ rfl ?_ ?_) ?_
            rotate_left 2
            · rfl
            · decide
            · decide
            · simp [gfill, gsets, Value.cells]; rfl
            · rfl
          focus
            refine GOps.w1 rfl rfl rfl rfl (gop_ownB (id := ?_) (b := ?_) (L := ?_) (M := ?_) (K := ?_) ?_ tab_is rfl rfl rfl rfl ?_ ?_ ?_ ?_ ?_ ?_ ?_ (gsrc_b1 (b := ?_) (u := ?_) rfl rfl rfl ?_ ?_ ?_ ?_) ?_ ?_ ?_ ?_) ?_
            rotate_left 5
            · simp; rfl
            refine (Hp.at_push_lt ?_).trans ?_
            · omega
            · assumption
            · rfl
            · rfl
            · rfl
            · rfl
            · omega
            · exact .inr (by omega)
            rotate_left 2
            · exact Hp.at_push_eq
            · rfl
            · exact congrArg (fun z : Int => [Value.int .u8 z]) (by assumption)
            · rfl
            · rfl
            · rfl
            · omega
            · omega
          refine GOps.r rfl rfl rfl rfl (grd_assign rfl rfl) ?_
          refine GOps.nil ?_
          refine GWP.region ?_
          refine GOps.r rfl rfl rfl rfl (grd_add64 rfl rfl rfl ?_) ?_
          · omega
          refine GOps.r rfl rfl rfl rfl (grd_move rfl rfl) ?_
          refine GOps.nil ?_
        refine ⟨(some (H2.length + 1), D2 ++ [UInt8.ofNat N2], k + 1), ?_, ⟨by simp only; omega, by simpa using hD2, by simp, by simp, by omega, ?_, ?_⟩, by simp only; omega⟩
        · simp only [putV, List.length_append, List.length_singleton]
          repeat (first | exact Env.sub_nil | refine Env.sub_cons rfl ?_ | (refine Env.sub_cons (congrArg some ?_) ?_; (· first | rfl | go_num | (simp; done))))
        · ((repeat (first | (refine (killO_ne ?_).trans ?_; (· (intro hq; first | (have := lt_io _ hq; first | omega | (simp; omega)) | (have := lt_ig _ hq; first | omega | (simp; omega))))) | (refine (Hp.at_put_ne ?_).trans ?_; (· (first | assumption | (exact Ne.symm (by assumption)) | omega | (simp; done) | (simp; omega)))) | (refine (Hp.at_push_lt ?_).trans ?_; (· (first | assumption | omega | (simp; done) | (simp; omega)))) | (refine (Hp.at_kill_ne ?_).trans ?_; (· (first | assumption | (exact Ne.symm (by assumption)) | omega | (simp; done) | (simp; omega)))) | (refine (HExt.eq (by assumption) _ ?_ ?_).trans ?_; (· (first | assumption | omega | (simp; done) | (simp; omega))); (· (first | (intro h; cases h; done) | (simp; done) | (simp; omega)))))); (first | assumption | exact Hp.at_push_eq | (refine Hp.at_push_id ?_; (· (first | rfl | assumption | omega | (simp; done) | (simp; omega)))) | (refine Hp.at_put_eq ?_; (· (first | assumption | omega | (simp; done) | (simp; omega)))) | (refine Hp.at_put_id ?_ ?_; (· (first | rfl | assumption | omega | (simp; done) | (simp; omega))); (· (first | assumption | omega | (simp; done) | (simp; omega))))))
        ·
          repeat (first | exact HExt.refl _ _ | assumption | refine HExt.push ?_ | (refine HExt.put ?_ ?_; rotate_left 1; (· first | (refine .inr ?_; first | omega | (simp; done) | (simp; omega)) | (refine .inl ?_; simp))) | (refine HExt.kill ?_ ?_; rotate_left 1; (· first | (refine .inr ?_; first | omega | (simp; done) | (simp; omega)) | (refine .inl ?_; simp))) | (refine HExt.tr ?_ (by assumption) ?_; rotate_left 1; (· first | (intro _ h; cases h; done) | (simp; done) | (simp; omega))))
  · obtain rfl : k = l.length := by omega
    cases o with
    | none => exact absurd (ho rfl) (by omega)
    | some id =>
      obtain ⟨hd0, hid, hat, hx3⟩ := hI
      rw [List.drop_length, encs_nil, List.append_nil] at hD
      subst hD
      simp only [putV]
      focus
        refine GWP.seq ?_
        refine GWP.region ?_
        refine GOps.r rfl rfl rfl rfl (grd_lss rfl rfl rfl) ?_
        refine GOps.nil ?_
        refine GWP.seq ?_
        refine GWP.cond_f rfl ?_ ?_
        · exact decide_eq_false (by omega)
        refine GWP.exit ?_
        refine GWP.seq ?_
        refine GWP.region ?_
        refine GOps.r rfl rfl rfl rfl (grd_move rfl rfl) ?_
        refine GOps.r rfl rfl rfl rfl (grd_assign rfl rfl) ?_
        refine GOps.nil ?_
        refine GWP.ret ?_
        refine ⟨_, .one rfl, ?_⟩
        refine ⟨?_, ?_⟩
        · exact ⟨id, rfl, hid, hat⟩
        · assumption
/-- The row that a number's bytes make. -/
def numP (H : Hp) (N : Nat) (v : Value) (H' : Hp) : Prop := (∃ id, v = .slice (some ⟨id, 0, none⟩) (enc N).length (if N < 128 then 1 else capU) ∧ H.length ≤ id ∧ H'.at id = some ⟨5, 1, vb (enc N), true⟩) ∧ HExt [] H H'
theorem numP.bs {H H' : Hp} {N : Nat} {v : Value} (h : numP H N v H') : (∃ p c, v = .slice p (enc N).length c ∧ BS H' (.slice p (enc N).length c) (enc N)) ∧ HExt [] H H' := by
  obtain ⟨⟨id, e, _, h2⟩, x⟩ := h
  exact ⟨⟨_, _, e, bs_blk h2 rfl (by rw [List.drop_zero]; exact List.take_of_length_le (by simp)) rfl (by simp) (allU8_vb _)⟩, x⟩
set_option maxHeartbeats 4000000 in
set_option maxRecDepth 100000 in
set_option linter.unusedSimpArgs false in
theorem g_refnum : ∀ (N : Nat), N < 18446744073709551616 → ∀ (H : Hp) (mi : Int), mi = (N : Int) → GCalls Tryd.prog 28 [.int .u64 mi] [] H (numP H N) := by
  intro N
  induction N using Nat.strongRecOn with
  | ind N ih =>
    intro hN H mi hmi
    subst hmi
    unfold numP
    have hlo := low_u8 N
    have hle := enc_le N hN
    by_cases h128 : N < 128
    · have he := enc_lt h128
      have hw := low_u8 N
      rw [wrap_u8_in (by omega)] at hw
      rw [if_pos h128, he, List.length_singleton]
      refine GCalls.body tab_is Tryd.func28 rfl Tryd.results28 Tryd.ntmps28 (by simp) ?_ ?_
      · first | (intro _ h; cases h; done) | (simp; done) | (simp; omega) | (intro i hi; simp at hi; rcases hi with rfl | rfl <;> omega) | (intro i hi; simp at hi; rcases hi with rfl | rfl | rfl <;> omega)
      focus
        refine GWP.seq ?_
        refine GWP.region ?_
        refine GOps.r rfl rfl rfl rfl (grd_assign rfl rfl) ?_
        refine GOps.nil ?_
        refine GWP.seq ?_
        refine GWP.seq ?_
        refine GWP.region ?_
        refine GOps.r rfl rfl rfl rfl (grd_move rfl rfl) ?_
        refine GOps.r rfl rfl rfl rfl (grd_lss rfl rfl rfl) ?_
        refine GOps.nil ?_
        refine GWP.cond_t rfl ?_ ?_
        · exact decide_eq_true (by omega)
        refine GWP.seq ?_
        refine GWP.region ?_
        refine GOps.r rfl rfl rfl rfl (grd_move rfl rfl) ?_
        refine GOps.r rfl rfl rfl rfl (grd_conv_in tab_is rfl rfl rfl rfl rfl ?_) ?_
        · refine wrap_u8_in ?_; omega
        focus
          refine GOps.w1 rfl rfl rfl rfl (gop_lit (id := ?_) (cs := ?_) ?_ tab_is rfl rfl rfl ?_ ?_ rfl ?_ ?_) ?_
          rotate_left 2
          · rfl
          · decide
          · decide
          · simp [gfill, gsets, Value.cells]; rfl
          · rfl
        refine GOps.r rfl rfl rfl rfl (grd_assign rfl rfl) ?_
        refine GOps.nil ?_
        refine GWP.ret ?_
        refine ⟨_, .one rfl, ?_⟩
        refine ⟨?_, ?_⟩
        · exact ⟨_, rfl, Nat.le_refl _, by rw [hw]; exact Hp.at_push_eq⟩
        refine HExt.push ?_
        · exact HExt.refl _ _
    · have he := enc_ge h128
      have hmo : IntKind.u8.wrap ((N : Int) % 128 + 128) = ((UInt8.ofNat (N % 128 + 128)).toNat : Int) := by
        rw [IntKind.wrap_u8]
        simp
      have ih2 := fun H mi hm => (ih (N / 128) (by omega) (by omega) H mi hm).mono fun v H' h => h.bs
      have hl2 : (enc (N / 128)).length + 1 = (enc N).length := by rw [he]; rfl
      have hp2 := enc_pos (N / 128)
      clear ih
      rw [if_neg h128]
      refine GCalls.body tab_is Tryd.func28 rfl Tryd.results28 Tryd.ntmps28 (by simp) ?_ ?_
      · first | (intro _ h; cases h; done) | (simp; done) | (simp; omega) | (intro i hi; simp at hi; rcases hi with rfl | rfl <;> omega) | (intro i hi; simp at hi; rcases hi with rfl | rfl | rfl <;> omega)
      focus
        refine GWP.seq ?_
        refine GWP.region ?_
        refine GOps.r rfl rfl rfl rfl (grd_assign rfl rfl) ?_
        refine GOps.nil ?_
        refine GWP.seq ?_
        refine GWP.seq ?_
        refine GWP.region ?_
        refine GOps.r rfl rfl rfl rfl (grd_move rfl rfl) ?_
        refine GOps.r rfl rfl rfl rfl (grd_lss rfl rfl rfl) ?_
        refine GOps.nil ?_
        refine GWP.cond_f rfl ?_ ?_
        · exact decide_eq_false (by omega)
        refine GWP.skip ?_
        refine GWP.seq ?_
        refine GWP.region ?_
        refine GOps.r rfl rfl rfl rfl (grd_move rfl rfl) ?_
        refine GOps.r rfl rfl rfl rfl (grd_rem64 rfl rfl rfl ?_ ?_) ?_
        · omega
        · omega
        refine GOps.r rfl rfl rfl rfl (grd_conv_in tab_is rfl rfl rfl rfl rfl ?_) ?_
        · refine wrap_u8_in ?_; omega
        refine GOps.r rfl rfl rfl rfl (grd_add rfl rfl rfl) ?_
        focus
          refine GOps.w1 rfl rfl rfl rfl (gop_lit (id := ?_) (cs := ?_) ?_ tab_is rfl rfl rfl ?_ ?_ rfl ?_ ?_) ?_
          rotate_left 2
          · rfl
          · decide
          · decide
          · simp [gfill, gsets, Value.cells]; rfl
          · rfl
        refine GOps.r rfl rfl rfl rfl (grd_move rfl rfl) ?_
        refine GOps.r rfl rfl rfl rfl (grd_quoU rfl rfl rfl ?_ ?_) ?_
        · omega
        · omega
        refine GOps.w rfl rfl rfl rfl (gop_call rfl Tryd.call28 rfl ?_ (ih2 _ _ ?_)) ?_
        · intro _ h; cases h; done
        · omega
        rintro _ Hxi4 ⟨⟨pi1, ci2, rfl, bi3⟩, xi4⟩
        have xi4l := HExt.len xi4; try simp at xi4l
        focus
          refine GOps.w1 rfl rfl rfl rfl (gop_fullB (id := ?_) (L := ?_) (M := ?_) (K := ?_) ?_ tab_is rfl rfl rfl rfl ?_ ?_ ?_ (gsrc_bs rfl rfl rfl ?_) ?_ ?_ ?_ ?_) ?_
          rotate_left 4
          · rfl
          refine bs_b1 (b := ?_) (u := ?_) ?_ ?_ ?_ ?_
          rotate_left 2
          refine (HExt.eq (by assumption) _ ?_ ?_).trans ?_
          · simp; done
          · intro h; cases h; done
          · exact Hp.at_push_eq
          · rfl
          · exact congrArg (fun z : Int => [Value.int .u8 z]) (by assumption)
          · rfl
          · decide
          · omega
          · assumption
          · exact BS.len (by assumption)
          · rfl
          · omega
          · omega
        refine GOps.r rfl rfl rfl rfl (grd_assign rfl rfl) ?_
        refine GOps.nil ?_
        refine GWP.ret ?_
        refine ⟨_, .one rfl, ?_⟩
        refine ⟨?_, ?_⟩
        rotate_left 1
        refine HExt.push ?_
        refine HExt.tr ?_ (by assumption) ?_
        refine HExt.push ?_
        · exact HExt.refl _ _
        · intro _ h; cases h; done
      exact ⟨_, congrArg (fun m => Value.slice (some ⟨_, 0, none⟩) m capU) (by omega), by omega, by rw [he]; exact Hp.at_push_eq⟩
set_option maxHeartbeats 4000000 in
set_option maxRecDepth 100000 in
set_option linter.unusedSimpArgs false in
theorem g_seal (H : Hp) (p : Option Addr) (n c : Nat) (L : List UInt8) (hb : BS H (.slice p n c) L) (hn : n ≤ 35184372088832) : GCalls Tryd.prog 24 [.slice p n c] [] H (fun v H' => ∃ p' c', v = .slice p' (n + 4) c' ∧ BS H' (.slice p' (n + 4) c') (sealL L) ∧ HExt [] H H') :=
  (GCalls.own1 hb (by omega) fun A c' w h1 h2 h3 h4 h5 => seal_any A n c' L w h1 h2 h3 h4 h5 hn).mono fun v H' ⟨e1, e2⟩ => by
    subst e1 e2
    exact ⟨_, _, rfl, bs_push rfl (by rw [sealL_length, hb.len]), (HExt.refl _ _).push⟩
end Go.Proofs.YtjoblmdfbddkeaaDoor

/- Numbers and texts, put and read: plain. -/
namespace Go.Proofs.YtjoblmdfbddkeaaDoor
open Go.RowKit

/-- A number as one of 64 bits. -/
def w64 (z : Int) : Nat := (z % 18446744073709551616).toNat
theorem w64_of {z : Int} (h : 0 ≤ z) (h2 : z < 18446744073709551616) : ((w64 z : Nat) : Int) = z := by unfold w64; omega
theorem w64_lt (z : Int) : w64 z < 18446744073709551616 := by unfold w64; omega
theorem wrap_w64 (z : Int) : IntKind.u64.wrap z = ((w64 z : Nat) : Int) := by
  rw [IntKind.wrap_u64, w64]
  omega
def textL (x : List UInt8) : List UInt8 := enc x.length ++ x
theorem nextL_enc2 (d : Nat) : ∀ (i a N : Nat) (r : List UInt8), N < 128 ^ (d + 1) → i + d ≤ 9 → (i + d = 9 → N < 2 * 128 ^ d) → (0 < i → 0 < N) → nextL i a (enc N ++ r) = (a + N * 128 ^ i, i + (enc N).length, 0) := by
  induction d with
  | zero =>
    intro i a N r hN hi h9 h0
    have hN' : N < 128 := by simpa using hN
    have hb : (UInt8.ofNat N).toNat = N := by simp; omega
    rw [enc_lt hN', List.singleton_append, nextL_cons, hb, if_neg, if_pos hN', Nat.mod_eq_of_lt hN']
    · rfl
    · intro h
      rcases h with ⟨h1, h2⟩ | ⟨h1, h2⟩
      · have := h9 (by omega)
        simp at this
        omega
      · have := h0 h1
        omega
  | succ d ih =>
    intro i a N r hN hi h9 h0
    by_cases hN' : N < 128
    · have hb : (UInt8.ofNat N).toNat = N := by simp; omega
      rw [enc_lt hN', List.singleton_append, nextL_cons, hb, if_neg, if_pos hN', Nat.mod_eq_of_lt hN']
      · rfl
      · intro h
        rcases h with ⟨h1, h2⟩ | ⟨h1, h2⟩
        · omega
        · have := h0 h1
          omega
    · have hb : (UInt8.ofNat (N % 128 + 128)).toNat = N % 128 + 128 := by simp; omega
      have hp : (128 : Nat) ^ (d + 1 + 1) = 128 * 128 ^ (d + 1) := by rw [Nat.pow_succ, Nat.mul_comm]
      have hp2 : (128 : Nat) ^ (d + 1) = 128 * 128 ^ d := by rw [Nat.pow_succ, Nat.mul_comm]
      have hrec := ih (i + 1) (a + N % 128 * 128 ^ i) (N / 128) r (by omega) (by omega) (fun h => by have := h9 (by omega); omega) (fun _ => by omega)
      rw [enc_ge hN', List.cons_append, nextL_cons, hb, if_neg (by omega), if_neg (by omega), show (N % 128 + 128) % 128 = N % 128 from by omega, hrec]
      refine Prod.ext ?_ (Prod.ext ?_ rfl)
      · show a + N % 128 * 128 ^ i + N / 128 * 128 ^ (i + 1) = a + N * 128 ^ i
        have e : N * 128 ^ i = N % 128 * 128 ^ i + N / 128 * 128 ^ (i + 1) := by
          rw [Nat.pow_succ, Nat.mul_comm (128 ^ i) 128, ← Nat.mul_assoc, ← Nat.add_mul]
          congr 1
          omega
        omega
      · show i + 1 + (enc (N / 128)).length = i + (UInt8.ofNat (N % 128 + 128) :: enc (N / 128)).length
        simp only [List.length_cons]
        omega
theorem next_enc2 (N : Nat) (r : List UInt8) (h : N < 18446744073709551616) : next (enc N ++ r) = (N, (enc N).length, 0) := by
  have h1 : N < 128 ^ (9 + 1) := by rw [Nat.pow_succ, p128_9]; omega
  have := nextL_enc2 9 0 0 N r h1 (by omega) (fun _ => by rw [p128_9]; omega) (fun h => absurd h (by omega))
  simpa [next] using this
theorem number_enc2 (N most : Nat) (r : List UInt8) (h : N < 18446744073709551616) (hm : N ≤ most) : RdS.number ⟨enc N ++ r, 0⟩ most = (N, ⟨r, 0⟩) := by
  have hn := next_enc2 N r h
  unfold RdS.number
  simp only [hn]
  rw [if_neg (by simp), if_neg (by simp), if_neg (by omega)]
  simp
theorem bytes_text2 (x r : List UInt8) (most : Nat) (hm : x.length ≤ most) (h : x.length < 18446744073709551616) : RdS.bytes ⟨textL x ++ r, 0⟩ (most : Int) = (x, ⟨r, 0⟩) := by
  have hn : RdS.number ⟨textL x ++ r, 0⟩ (max (most : Int) 0).toNat = (x.length, ⟨x ++ r, 0⟩) := by
    have e : (max (most : Int) 0).toNat = most := by omega
    rw [e, textL, List.append_assoc]
    exact number_enc2 _ _ _ h hm
  unfold RdS.bytes
  simp only [hn]
  rw [if_neg (by simp), if_neg (by simp)]
  simp
theorem openL_seal (b : List UInt8) : openL (sealL b) = some b := by
  have hl := sealL_length b
  have ht : (sealL b).take ((sealL b).length - 4) = b := by
    rw [hl, show b.length + 4 - 4 = b.length by omega]
    unfold sealL
    exact List.take_left
  unfold openL
  rw [ht, if_pos ⟨by omega, rfl⟩]
theorem bs_noneE {H : Hp} {L : List UInt8} (h : [] = L) : BS H (.slice none 0 0) L := by
  subst h
  exact .none
theorem bs_row {H : Hp} {j n c : Nat} {b : Blk} {L : List UInt8} (hb : H.at j = some b) (hz : b.z = 1) (hcs : b.cs = vb L) (hn : n = L.length) : BS H (.slice (some ⟨j, 0, none⟩) n c) L := by
  subst hn
  exact bs_blk hb hz (by rw [hcs, List.drop_zero]; exact List.take_of_length_le (by simp)) rfl (by rw [hcs]; simp) (by rw [hcs]; exact allU8_vb _)
theorem gsrc_strM {T : Tab} {env : Env} {H : Hp} {y : Operand} {xt : TypeId} {i : TyI} {zr : List Value} {L M : List UInt8} (ht : T xt = some i) (hd : i.d = .str) (hx : geval env y = some (.string ⟨L.toArray⟩)) (hM : L = M) : GSrc T env H y xt 1 zr L.length (vb M) := by
  subst hM
  exact GSrc.str (s := ⟨L.toArray⟩) rfl ht hd hx
/-- A label's bytes, without their sum. -/
def labB (S : List UInt8) (g n : Int) : List UInt8 := ([76] ++ textL S) ++ encs [w64 g, w64 n]
theorem labB_len (S : List UInt8) (g n : Int) (h : S.length ≤ 8) : (labB S g n).length ≤ 39 := by
  have a1 := enc_le (w64 g) (w64_lt g)
  have a2 := enc_le (w64 n) (w64_lt n)
  have a3 := enc_le S.length (by omega)
  unfold labB textL
  simp only [encs_cons, encs_nil, List.length_append, List.length_cons, List.length_nil]
  omega
theorem openL_lab (S : List UInt8) (g n : Int) : openL (sealL (labB S g n)) = some (76 :: (textL S ++ (enc (w64 g) ++ enc (w64 n)))) := by
  rw [openL_seal]
  unfold labB
  simp only [encs_cons, encs_nil, List.append_nil, List.cons_append, List.nil_append]
theorem labR1 (S : List UInt8) (g n : Int) (h : S.length ≤ 8) : RdS.bytes ⟨textL S ++ (enc (w64 g) ++ enc (w64 n)), 0⟩ 8 = (S, ⟨enc (w64 g) ++ enc (w64 n), 0⟩) := by
  have := bytes_text2 S (enc (w64 g) ++ enc (w64 n)) 8 h (by omega)
  exact this
theorem labR2 (g n : Int) (h : w64 g ≤ 1073741824) : RdS.number ⟨enc (w64 g) ++ enc (w64 n), 0⟩ 1073741824 = (w64 g, ⟨enc (w64 n), 0⟩) := number_enc2 _ _ _ (w64_lt _) h
theorem labR3 (n : Int) (h : w64 n ≤ 1073741824) : RdS.number ⟨enc (w64 n), 0⟩ 1073741824 = (w64 n, ⟨[], 0⟩) := by
  have := number_enc2 (w64 n) 1073741824 [] (w64_lt _) h
  rw [List.append_nil] at this
  exact this
end Go.Proofs.YtjoblmdfbddkeaaDoor

/- Labels out of bytes: the document's. -/
namespace Go.Proofs.YtjoblmdfbddkeaaDoor
open Go.RowKit

set_option maxHeartbeats 4000000 in
set_option maxRecDepth 100000 in
set_option linter.unusedSimpArgs false in
theorem g_rright (H : Hp) (S : List UInt8) (hS : S.length ≤ 1000000) (g n : Int) : GCalls Tryd.prog 10 [labV S g n] [] H fun v H' => v = .bool (decide (poolO S ∧ 1 ≤ g ∧ g ≤ 1073741824 ∧ 0 ≤ n ∧ n ≤ 1073741824)) ∧ HExt [] H H' := by
  unfold labV
  by_cases hp : poolO S
  · have hP := fun H => g_rpool H S hS
    rw [decide_eq_true hp] at hP
    refine GCalls.body tab_is Tryd.func10 rfl Tryd.results10 Tryd.ntmps10 (by simp) ?_ ?_
    · first | (intro _ h; cases h; done) | (simp; done) | (simp; omega) | (intro i hi; simp at hi; rcases hi with rfl | rfl <;> omega) | (intro i hi; simp at hi; rcases hi with rfl | rfl | rfl <;> omega)
    focus
      refine GWP.seq ?_
      refine GWP.region ?_
      focus
        refine GOps.w1 rfl rfl rfl rfl (gop_box' (id := ?_) ?_ rfl rfl rfl) ?_
        rotate_left 1
        · rfl
      refine GOps.r rfl rfl rfl rfl (grd_assign rfl rfl) ?_
      refine GOps.nil ?_
      refine GWP.seq ?_
      refine GWP.region ?_
      refine GOps.r rfl rfl rfl rfl (grd_fieldAddr tab_is rfl rfl rfl rfl rfl) ?_
      focus
        refine GOps.r rfl rfl rfl rfl (grd_load1 (b := ?_) (v := ?_) tab_is rfl rfl rfl rfl ?_ ?_) ?_
        rotate_left 2
        · exact Hp.at_push_eq
        · rfl
      refine GOps.w rfl rfl rfl rfl (gop_call rfl Tryd.call13 rfl ?_ (hP _)) ?_
      · intro _ h; cases h; done
      rintro _ Hxa1 ⟨rfl, xa1⟩
      have xa1l := HExt.len xa1; try simp at xa1l
      refine GOps.r rfl rfl rfl rfl (grd_assign rfl rfl) ?_
      refine GOps.nil ?_
      refine GWP.seq ?_
      refine GWP.region ?_
      refine GOps.r rfl rfl rfl rfl (grd_move rfl rfl) ?_
      refine GOps.r rfl rfl rfl rfl (grd_move rfl rfl) ?_
      refine GOps.take rfl rfl ?_ ?_
      · simp; done
      refine GOps.r rfl rfl rfl rfl (grd_fieldAddr tab_is rfl rfl rfl rfl rfl) ?_
      refine GOps.take rfl rfl ?_ ?_
      · simp; done
      focus
        refine GOps.r rfl rfl rfl rfl (grd_load1 (b := ?_) (v := ?_) tab_is rfl rfl rfl rfl ?_ ?_) ?_
        rotate_left 2
        refine (HExt.eq (by assumption) _ ?_ ?_).trans ?_
        · simp; done
        · intro h; cases h; done
        · exact Hp.at_push_eq
        · rfl
      refine GOps.take rfl rfl ?_ ?_
      · simp; done
      refine GOps.r rfl rfl rfl rfl (grd_geq rfl rfl rfl) ?_
      refine GOps.r rfl rfl rfl rfl (grd_pick_t rfl rfl ?_ rfl) ?_
      · with_reducible rfl
      refine GOps.r rfl rfl rfl rfl (grd_move rfl rfl) ?_
      refine GOps.split rfl rfl (fun a2 => ?_) (fun a2 => ?_)
      simp only [beq_true, beq_false, Bool.not_true, Bool.not_false, Bool.not_eq_true', Bool.not_eq_false', decide_eq_true_eq, decide_eq_false_iff_not] at a2
      refine GOps.take rfl rfl ?_ ?_
      · exact beq_iff_eq.2 (decide_eq_true (by assumption))
      refine GOps.r rfl rfl rfl rfl (grd_fieldAddr tab_is rfl rfl rfl rfl rfl) ?_
      refine GOps.take rfl rfl ?_ ?_
      · exact beq_iff_eq.2 (decide_eq_true (by assumption))
      focus
        refine GOps.r rfl rfl rfl rfl (grd_load1 (b := ?_) (v := ?_) tab_is rfl rfl rfl rfl ?_ ?_) ?_
        rotate_left 2
        refine (HExt.eq (by assumption) _ ?_ ?_).trans ?_
        · simp; done
        · intro h; cases h; done
        · exact Hp.at_push_eq
        · rfl
      refine GOps.take rfl rfl ?_ ?_
      · exact beq_iff_eq.2 (decide_eq_true (by assumption))
      refine GOps.r rfl rfl rfl rfl (grd_leq rfl rfl rfl) ?_
      refine GOps.r rfl rfl rfl rfl (grd_pick_t rfl rfl ?_ rfl) ?_
      · exact decide_eq_true (by assumption)
      refine GOps.r rfl rfl rfl rfl (grd_move rfl rfl) ?_
      refine GOps.split rfl rfl (fun a3 => ?_) (fun a3 => ?_)
      simp only [beq_true, beq_false, Bool.not_true, Bool.not_false, Bool.not_eq_true', Bool.not_eq_false', decide_eq_true_eq, decide_eq_false_iff_not] at a3
      refine GOps.take rfl rfl ?_ ?_
      · exact beq_iff_eq.2 (decide_eq_true (by assumption))
      refine GOps.r rfl rfl rfl rfl (grd_fieldAddr tab_is rfl rfl rfl rfl rfl) ?_
      refine GOps.take rfl rfl ?_ ?_
      · exact beq_iff_eq.2 (decide_eq_true (by assumption))
      focus
        refine GOps.r rfl rfl rfl rfl (grd_load1 (b := ?_) (v := ?_) tab_is rfl rfl rfl rfl ?_ ?_) ?_
        rotate_left 2
        refine (HExt.eq (by assumption) _ ?_ ?_).trans ?_
        · simp; done
        · intro h; cases h; done
        · exact Hp.at_push_eq
        · rfl
      refine GOps.take rfl rfl ?_ ?_
      · exact beq_iff_eq.2 (decide_eq_true (by assumption))
      refine GOps.r rfl rfl rfl rfl (grd_geq rfl rfl rfl) ?_
      refine GOps.r rfl rfl rfl rfl (grd_pick_t rfl rfl ?_ rfl) ?_
      · exact decide_eq_true (by assumption)
      refine GOps.r rfl rfl rfl rfl (grd_move rfl rfl) ?_
      refine GOps.split rfl rfl (fun a4 => ?_) (fun a4 => ?_)
      simp only [beq_true, beq_false, Bool.not_true, Bool.not_false, Bool.not_eq_true', Bool.not_eq_false', decide_eq_true_eq, decide_eq_false_iff_not] at a4
      refine GOps.take rfl rfl ?_ ?_
      · exact beq_iff_eq.2 (decide_eq_true (by assumption))
      refine GOps.r rfl rfl rfl rfl (grd_fieldAddr tab_is rfl rfl rfl rfl rfl) ?_
      refine GOps.take rfl rfl ?_ ?_
      · exact beq_iff_eq.2 (decide_eq_true (by assumption))
      focus
        refine GOps.r rfl rfl rfl rfl (grd_load1 (b := ?_) (v := ?_) tab_is rfl rfl rfl rfl ?_ ?_) ?_
        rotate_left 2
        refine (HExt.eq (by assumption) _ ?_ ?_).trans ?_
        · simp; done
        · intro h; cases h; done
        · exact Hp.at_push_eq
        · rfl
      refine GOps.take rfl rfl ?_ ?_
      · exact beq_iff_eq.2 (decide_eq_true (by assumption))
      refine GOps.r rfl rfl rfl rfl (grd_leq rfl rfl rfl) ?_
      refine GOps.r rfl rfl rfl rfl (grd_pick_t rfl rfl ?_ rfl) ?_
      · exact decide_eq_true (by assumption)
      refine GOps.r rfl rfl rfl rfl (grd_assign rfl rfl) ?_
      refine GOps.nil ?_
      refine GWP.ret ?_
      refine ⟨_, .one rfl, ?_⟩
      refine ⟨?_, ?_⟩
      · exact vb_iff2 (by simp only [hp, true_and]; omega)
      refine HExt.tr ?_ (by assumption) ?_
      refine HExt.push ?_
      · exact HExt.refl _ _
      · intro _ h; cases h; done
      simp only [beq_true, beq_false, Bool.not_true, Bool.not_false, Bool.not_eq_true', Bool.not_eq_false', decide_eq_true_eq, decide_eq_false_iff_not] at a4
      refine GOps.no rfl ?_ rfl rfl ?_
      · exact beq_eq_false_iff_ne.2 (by rw [decide_eq_false (by assumption)]; decide)
      refine GOps.no rfl ?_ rfl rfl ?_
      · exact beq_eq_false_iff_ne.2 (by rw [decide_eq_false (by assumption)]; decide)
      refine GOps.no rfl ?_ rfl rfl ?_
      · exact beq_eq_false_iff_ne.2 (by rw [decide_eq_false (by assumption)]; decide)
      refine GOps.r rfl rfl rfl rfl (grd_pick_f rfl rfl ?_ rfl) ?_
      · exact decide_eq_false (by assumption)
      refine GOps.r rfl rfl rfl rfl (grd_assign rfl rfl) ?_
      refine GOps.nil ?_
      refine GWP.ret ?_
      refine ⟨_, .one rfl, ?_⟩
      refine ⟨?_, ?_⟩
      · exact vb_f2 (by simp only [hp, true_and]; omega)
      refine HExt.tr ?_ (by assumption) ?_
      refine HExt.push ?_
      · exact HExt.refl _ _
      · intro _ h; cases h; done
      simp only [beq_true, beq_false, Bool.not_true, Bool.not_false, Bool.not_eq_true', Bool.not_eq_false', decide_eq_true_eq, decide_eq_false_iff_not] at a3
      refine GOps.no rfl ?_ rfl rfl ?_
      · exact beq_eq_false_iff_ne.2 (by rw [decide_eq_false (by assumption)]; decide)
      refine GOps.no rfl ?_ rfl rfl ?_
      · exact beq_eq_false_iff_ne.2 (by rw [decide_eq_false (by assumption)]; decide)
      refine GOps.no rfl ?_ rfl rfl ?_
      · exact beq_eq_false_iff_ne.2 (by rw [decide_eq_false (by assumption)]; decide)
      refine GOps.r rfl rfl rfl rfl (grd_pick_f rfl rfl ?_ rfl) ?_
      · exact decide_eq_false (by assumption)
      refine GOps.r rfl rfl rfl rfl (grd_move rfl rfl) ?_
      refine GOps.no rfl ?_ rfl rfl ?_
      · simp; done
      refine GOps.no rfl ?_ rfl rfl ?_
      · simp; done
      refine GOps.no rfl ?_ rfl rfl ?_
      · simp; done
      refine GOps.r rfl rfl rfl rfl (grd_pick_f rfl rfl ?_ rfl) ?_
      · with_reducible rfl
      refine GOps.r rfl rfl rfl rfl (grd_assign rfl rfl) ?_
      refine GOps.nil ?_
      refine GWP.ret ?_
      refine ⟨_, .one rfl, ?_⟩
      refine ⟨?_, ?_⟩
      · exact vb_f2 (by simp only [hp, true_and]; omega)
      refine HExt.tr ?_ (by assumption) ?_
      refine HExt.push ?_
      · exact HExt.refl _ _
      · intro _ h; cases h; done
      simp only [beq_true, beq_false, Bool.not_true, Bool.not_false, Bool.not_eq_true', Bool.not_eq_false', decide_eq_true_eq, decide_eq_false_iff_not] at a2
      refine GOps.no rfl ?_ rfl rfl ?_
      · exact beq_eq_false_iff_ne.2 (by rw [decide_eq_false (by assumption)]; decide)
      refine GOps.no rfl ?_ rfl rfl ?_
      · exact beq_eq_false_iff_ne.2 (by rw [decide_eq_false (by assumption)]; decide)
      refine GOps.no rfl ?_ rfl rfl ?_
      · exact beq_eq_false_iff_ne.2 (by rw [decide_eq_false (by assumption)]; decide)
      refine GOps.r rfl rfl rfl rfl (grd_pick_f rfl rfl ?_ rfl) ?_
      · exact decide_eq_false (by assumption)
      refine GOps.r rfl rfl rfl rfl (grd_move rfl rfl) ?_
      refine GOps.no rfl ?_ rfl rfl ?_
      · simp; done
      refine GOps.no rfl ?_ rfl rfl ?_
      · simp; done
      refine GOps.no rfl ?_ rfl rfl ?_
      · simp; done
      refine GOps.r rfl rfl rfl rfl (grd_pick_f rfl rfl ?_ rfl) ?_
      · with_reducible rfl
      refine GOps.r rfl rfl rfl rfl (grd_move rfl rfl) ?_
      refine GOps.no rfl ?_ rfl rfl ?_
      · simp; done
      refine GOps.no rfl ?_ rfl rfl ?_
      · simp; done
      refine GOps.no rfl ?_ rfl rfl ?_
      · simp; done
      refine GOps.r rfl rfl rfl rfl (grd_pick_f rfl rfl ?_ rfl) ?_
      · with_reducible rfl
      refine GOps.r rfl rfl rfl rfl (grd_assign rfl rfl) ?_
      refine GOps.nil ?_
      refine GWP.ret ?_
      refine ⟨_, .one rfl, ?_⟩
      refine ⟨?_, ?_⟩
      · exact vb_f2 (by simp only [hp, true_and]; omega)
      refine HExt.tr ?_ (by assumption) ?_
      refine HExt.push ?_
      · exact HExt.refl _ _
      · intro _ h; cases h; done
  · have hP := fun H => g_rpool H S hS
    rw [decide_eq_false hp] at hP
    refine GCalls.body tab_is Tryd.func10 rfl Tryd.results10 Tryd.ntmps10 (by simp) ?_ ?_
    · first | (intro _ h; cases h; done) | (simp; done) | (simp; omega) | (intro i hi; simp at hi; rcases hi with rfl | rfl <;> omega) | (intro i hi; simp at hi; rcases hi with rfl | rfl | rfl <;> omega)
    focus
      refine GWP.seq ?_
      refine GWP.region ?_
      focus
        refine GOps.w1 rfl rfl rfl rfl (gop_box' (id := ?_) ?_ rfl rfl rfl) ?_
        rotate_left 1
        · rfl
      refine GOps.r rfl rfl rfl rfl (grd_assign rfl rfl) ?_
      refine GOps.nil ?_
      refine GWP.seq ?_
      refine GWP.region ?_
      refine GOps.r rfl rfl rfl rfl (grd_fieldAddr tab_is rfl rfl rfl rfl rfl) ?_
      focus
        refine GOps.r rfl rfl rfl rfl (grd_load1 (b := ?_) (v := ?_) tab_is rfl rfl rfl rfl ?_ ?_) ?_
        rotate_left 2
        · exact Hp.at_push_eq
        · rfl
      refine GOps.w rfl rfl rfl rfl (gop_call rfl Tryd.call13 rfl ?_ (hP _)) ?_
      · intro _ h; cases h; done
      rintro _ Hxb1 ⟨rfl, xb1⟩
      have xb1l := HExt.len xb1; try simp at xb1l
      refine GOps.r rfl rfl rfl rfl (grd_assign rfl rfl) ?_
      refine GOps.nil ?_
      refine GWP.seq ?_
      refine GWP.region ?_
      refine GOps.r rfl rfl rfl rfl (grd_move rfl rfl) ?_
      refine GOps.r rfl rfl rfl rfl (grd_move rfl rfl) ?_
      refine GOps.no rfl ?_ rfl rfl ?_
      · simp; done
      refine GOps.no rfl ?_ rfl rfl ?_
      · simp; done
      refine GOps.no rfl ?_ rfl rfl ?_
      · simp; done
      refine GOps.r rfl rfl rfl rfl (grd_pick_f rfl rfl ?_ rfl) ?_
      · with_reducible rfl
      refine GOps.r rfl rfl rfl rfl (grd_move rfl rfl) ?_
      refine GOps.no rfl ?_ rfl rfl ?_
      · simp; done
      refine GOps.no rfl ?_ rfl rfl ?_
      · simp; done
      refine GOps.no rfl ?_ rfl rfl ?_
      · simp; done
      refine GOps.r rfl rfl rfl rfl (grd_pick_f rfl rfl ?_ rfl) ?_
      · with_reducible rfl
      refine GOps.r rfl rfl rfl rfl (grd_move rfl rfl) ?_
      refine GOps.no rfl ?_ rfl rfl ?_
      · simp; done
      refine GOps.no rfl ?_ rfl rfl ?_
      · simp; done
      refine GOps.no rfl ?_ rfl rfl ?_
      · simp; done
      refine GOps.r rfl rfl rfl rfl (grd_pick_f rfl rfl ?_ rfl) ?_
      · with_reducible rfl
      refine GOps.r rfl rfl rfl rfl (grd_move rfl rfl) ?_
      refine GOps.no rfl ?_ rfl rfl ?_
      · simp; done
      refine GOps.no rfl ?_ rfl rfl ?_
      · simp; done
      refine GOps.no rfl ?_ rfl rfl ?_
      · simp; done
      refine GOps.r rfl rfl rfl rfl (grd_pick_f rfl rfl ?_ rfl) ?_
      · with_reducible rfl
      refine GOps.r rfl rfl rfl rfl (grd_assign rfl rfl) ?_
      refine GOps.nil ?_
      refine GWP.ret ?_
      refine ⟨_, .one rfl, ?_⟩
      refine ⟨?_, ?_⟩
      · exact vb_f2 (by simp only [hp, false_and, not_false_eq_true])
      refine HExt.tr ?_ (by assumption) ?_
      refine HExt.push ?_
      · exact HExt.refl _ _
      · intro _ h; cases h; done
set_option maxHeartbeats 4000000 in
set_option maxRecDepth 100000 in
set_option linter.unusedSimpArgs false in
theorem g_rnumG (s : RdS) (m : Nat) (r : Nat × RdS) (h : s.number m = r) (mi : Int) (hm : mi = (m : Int)) (H : Hp) (g : Nat) (p : Option Addr) (c : Nat) (hr : RG 50 H g p c s) : GCalls Tryd.prog 22 [.pointer (some ⟨g, 0, none⟩), .int .u64 mi] [g] H fun v H' => v = .int .u64 (r.1 : Int) ∧ (∃ p' c', RG 50 H' g p' c' r.2) ∧ BSk H H' ∧ HExt [g] H H' := by
  subst h hm
  exact g_rnumber H g p c s (m : Int) (by omega) hr
theorem openL_le {L b : List UInt8} (h : openL L = some b) : b.length ≤ L.length := by
  unfold openL at h
  split at h
  · injection h with h
    subst h
    simp only [List.length_take]
    omega
  · cases h
set_option maxHeartbeats 4000000 in
set_option maxRecDepth 100000 in
set_option linter.unusedSimpArgs false in
theorem g_rlreadC (H : Hp) (p : Option Addr) (n c : Nat) (L M : List UInt8) (hb : BS H (.slice p n c) L) (hn : n ≤ 35184372088832) (ho : openL L = some (76 :: M)) (q1 : List UInt8 × RdS) (r2 r3 : Nat × RdS) (h1 : RdS.bytes ⟨M, 0⟩ 8 = q1) (h2 : q1.2.number 1073741824 = r2) (h3 : r2.2.number 1073741824 = r3) :
    GCalls Tryd.prog 7 [.slice p n c] [] H fun v H' => v = (if r3.2.fin ≠ 0 ∨ ¬ (poolO q1.1 ∧ 1 ≤ r2.1) then .tuple #[labV [] 0 0, .int .i64 3] else .tuple #[labV q1.1 r2.1 r3.1, .int .i64 0]) ∧ HExt [] H H' := by
  have hM : M.length + 1 ≤ L.length := by simpa using openL_le ho
  have hln := hb.len
  have hO := fun H p n c hb hn => g_ropen H p n c L hb hn
  rw [ho] at hO
  simp only [Option.getD_some, Option.isSome_some] at hO
  have hq := bytes_len ⟨M, 0⟩ 8
  rw [h1] at hq
  have t2 := numG_le h2
  have t3 := numG_le h3
  have hB := fun H g p c (h : RG 50 H g p c ⟨M, 0⟩) => g_rbytes H g p c ⟨M, 0⟩ 8 (by omega) h
  rw [h1] at hB
  have hf := fin_ne2 r3.2
  have hR := fun H => g_rright H q1.1 (by omega) (r2.1 : Int) (r3.1 : Int)
  have hd : ∀ u, u = r2.1 → (poolO q1.1 ∧ 1 ≤ (r2.1 : Int) ∧ (r2.1 : Int) ≤ 1073741824 ∧ 0 ≤ (r3.1 : Int) ∧ (r3.1 : Int) ≤ 1073741824 ↔ poolO q1.1 ∧ 1 ≤ r2.1) := fun _ _ => ⟨fun h => ⟨h.1, by omega⟩, fun h => ⟨h.1, by omega, by omega, by omega, by omega⟩⟩
  simp only [hd _ rfl, labV] at hR
  clear hd
  by_cases hg : poolO q1.1 ∧ 1 ≤ r2.1
  · rw [decide_eq_true hg] at hR
    simp only [hg, and_self, not_true_eq_false, or_false]
    refine GCalls.body tab_is Tryd.func7 rfl Tryd.results7 Tryd.ntmps7 (by simp) ?_ ?_
    · first | (intro _ h; cases h; done) | (simp; done) | (simp; omega) | (intro i hi; simp at hi; rcases hi with rfl | rfl <;> omega) | (intro i hi; simp at hi; rcases hi with rfl | rfl | rfl <;> omega)
    focus
      refine GWP.seq ?_
      refine GWP.region ?_
      focus
        refine GOps.w1 rfl rfl rfl rfl (gop_alloc' (id := ?_) ?_ tab_is rfl rfl ?_) ?_
        rotate_left 1
        · rfl
        · decide
      refine GOps.r rfl rfl rfl rfl (grd_assign rfl rfl) ?_
      refine GOps.nil ?_
      refine GWP.seq ?_
      refine GWP.region ?_
      refine GOps.r rfl rfl rfl rfl (grd_move rfl rfl) ?_
      refine GOps.w rfl rfl rfl rfl (gop_call rfl Tryd.call20 rfl ?_ (hO _ _ _ _ ?_ ?_)) ?_
      · intro _ h; cases h; done
      focus
        refine BS.ext (by assumption) ?_
        refine HExt.push ?_
        · exact HExt.refl _ _
      · omega
      rintro _ Hxc5 ⟨⟨pc1, nc2, cc3, rfl, bc4⟩, xc5⟩
      have xc5l := HExt.len xc5; try simp at xc5l
      have bc4n := BS.len bc4; try simp at bc4n; try subst bc4n
      refine GOps.r rfl rfl rfl rfl (grd_move rfl rfl) ?_
      focus
        refine GOps.r rfl rfl rfl rfl (grd_extract (v := ?_) rfl rfl ?_) ?_
        rotate_left 1
        · simp only [List.getElem?_toArray, List.getElem?_cons_zero, List.getElem?_cons_succ]; rfl
      focus
        refine GOps.r rfl rfl rfl rfl (grd_extract (v := ?_) rfl rfl ?_) ?_
        rotate_left 1
        · simp only [List.getElem?_toArray, List.getElem?_cons_zero, List.getElem?_cons_succ]; rfl
      refine GOps.r rfl rfl rfl rfl (grd_assign rfl rfl) ?_
      refine GOps.r rfl rfl rfl rfl (grd_assign rfl rfl) ?_
      refine GOps.nil ?_
      refine GWP.seq ?_
      refine GWP.seq ?_
      refine GWP.region ?_
      refine GOps.r rfl rfl rfl rfl (grd_move rfl rfl) ?_
      refine GOps.r rfl rfl rfl rfl (grd_not rfl rfl) ?_
      refine GOps.nil ?_
      refine GWP.cond_f rfl ?_ ?_
      · simp; done
      refine GWP.skip ?_
      refine GWP.seq ?_
      refine GWP.seq ?_
      refine GWP.region ?_
      refine GOps.r rfl rfl rfl rfl (grd_move rfl rfl) ?_
      refine GOps.r rfl rfl rfl rfl (grd_len tab_is rfl rfl rfl rfl rfl) ?_
      refine GOps.r rfl rfl rfl rfl (grd_eql rfl rfl rfl) ?_
      refine GOps.r rfl rfl rfl rfl (grd_move rfl rfl) ?_
      refine GOps.take rfl rfl ?_ ?_
      · simp; omega
      refine GOps.r rfl rfl rfl rfl (grd_move rfl rfl) ?_
      refine GOps.take rfl rfl ?_ ?_
      · simp; omega
      focus
        refine GOps.r rfl rfl rfl rfl (grd_indexBS (q := ?_) (L := ?_) tab_is rfl rfl rfl rfl rfl ?_ ?_ ?_) ?_
        rotate_left 2
        · assumption
        · rfl
        · exact Nat.le_of_ble_eq_true rfl
      refine GOps.take rfl rfl ?_ ?_
      · simp; omega
      focus
        refine GOps.re rfl rfl rfl rfl (grd_loadBSK (n := ?_) (c := ?_) (L := ?_) (u := ?_) tab_is rfl rfl rfl rfl ?_ ?_ ?_) ?_
        rotate_left 4
        · assumption
        · exact Nat.le_of_ble_eq_true rfl
        · simp only [List.getD_cons_zero]; rfl
      refine GOps.take rfl rfl ?_ ?_
      · simp; omega
      refine GOps.r rfl rfl rfl rfl (grd_neq rfl rfl rfl) ?_
      refine GOps.r rfl rfl rfl rfl (grd_pick_f rfl rfl ?_ rfl) ?_
      · exact decide_eq_false (by omega)
      refine GOps.nil ?_
      refine GWP.cond_f rfl ?_ ?_
      · simp; done
      refine GWP.skip ?_
      refine GWP.seq ?_
      refine GWP.region ?_
      refine GOps.r rfl rfl rfl rfl (grd_move rfl rfl) ?_
      focus
        refine gops_bs rfl rfl rfl rfl (grd_slBS (l := ?_) (h := ?_) (m2 := ?_) (L := ?_) (M := ?_) tab_is rfl rfl rfl rfl ?_ ?_ ?_ ?_ ?_ ?_ ?_) ?_
        rotate_left 5
        · assumption
        · refine gbound_const ?_; exact rfl
        · exact rfl
        · exact Nat.le_of_ble_eq_true rfl
        · omega
        · simp; rfl
        · refine Eq.trans (List.take_of_length_le ?_) ?_; rotate_left 1; rfl; (simp; done)
      intro pc6 cc6 c6
      have c6n := BS.len c6
      focus
        refine GOps.r rfl rfl rfl rfl (grd_build (cs := ?_) tab_is rfl rfl rfl ?_ rfl ?_) ?_
        rotate_left 1
        · decide
        · simp [gfill, gsets, Value.cells]; rfl
      focus
        refine GOps.w1 rfl rfl rfl rfl (gop_box' (id := ?_) ?_ rfl rfl rfl) ?_
        rotate_left 1
        · rfl
      refine GOps.r rfl rfl rfl rfl (grd_assign rfl rfl) ?_
      refine GOps.nil ?_
      refine GWP.seq ?_
      refine GWP.region ?_
      refine GOps.r rfl rfl rfl rfl (grd_move rfl rfl) ?_
      focus
        refine GOps.w rfl rfl rfl rfl (gop_call rfl Tryd.call21 rfl ?_ (hB _ _ ?_ ?_ ?_)) ?_
        · simp [Ctx.may]; omega
        rotate_left 2
        refine rg_mk (b := ?_) ?_ ?_ ?_ ?_
        rotate_left 1
        · exact Hp.at_push_eq
        · rfl
        focus
          refine BS.ext (by assumption) ?_
          refine HExt.push ?_
          · exact HExt.refl _ _
        · simp only; omega
      rintro _ Hxc15 ⟨⟨pc7, nc8, cc9, rfl, bc10⟩, ⟨pc11, cc12, rc13⟩, kc14, xc15⟩
      have xc15l := HExt.len xc15; try simp at xc15l
      have bc10n := BS.len bc10; try simp at bc10n; try subst bc10n
      have rc13g := RG.hg rc13; unfold rdBlk at rc13g; have rc13q := Hp.at_lt rc13g
      focus
        refine GOps.r rfl rfl rfl rfl (grd_strBP (L := ?_) tab_is rfl rfl rfl rfl rfl rfl rfl rfl ?_) ?_
        rotate_left 1
        · assumption
      focus
        refine GOps.r rfl rfl rfl rfl (grd_build (cs := ?_) tab_is rfl rfl rfl ?_ rfl ?_) ?_
        rotate_left 1
        · decide
        · simp [gfill, gsets, Value.cells]; rfl
      focus
        refine GOps.w1 rfl rfl rfl rfl (gop_alloc' (id := ?_) ?_ tab_is rfl rfl ?_) ?_
        rotate_left 1
        · rfl
        · decide
      focus
        refine GOps.s rfl rfl rfl (gop_storeC (b := ?_) (cs := ?_) tab_is rfl rfl ?_ rfl rfl ?_ ?_ ?_ ?_ ?_ ?_) ?_
        rotate_left 2
        · rfl
        · rfl
        · exact Hp.at_push_eq
        · rfl
        · exact Nat.le_of_ble_eq_true rfl
        · exact .inr (by simp; omega)
        · simp [splice, Value.cells]; rfl
      refine GOps.nil ?_
      refine GWP.seq ?_
      refine GWP.region ?_
      refine GOps.r rfl rfl rfl rfl (grd_move rfl rfl) ?_
      focus
        refine GOps.w rfl rfl rfl rfl (gop_call rfl Tryd.call22 rfl ?_ (g_rnumG _ _ _ h2 _ ?_ _ _ ?_ ?_ ?_)) ?_
        · simp [Ctx.may]; omega
        · omega
        rotate_left 2
        refine rg_ext (by assumption) ?_
        refine HExt.put ?_ ?_
        refine HExt.push ?_
        · exact HExt.refl _ _
        · exact .inr (by omega)
      rintro _ Hxc20 ⟨rfl, ⟨pc16, cc17, rc18⟩, kc19, xc20⟩
      have xc20l := HExt.len xc20; try simp at xc20l
      have rc18g := RG.hg rc18; unfold rdBlk at rc18g; have rc18q := Hp.at_lt rc18g
      refine GOps.r rfl rfl rfl rfl (grd_conv_in tab_is rfl rfl rfl rfl rfl ?_) ?_
      · refine wrap_i64_in ?_; omega
      refine GOps.r rfl rfl rfl rfl (grd_fieldAddr tab_is rfl rfl rfl rfl rfl) ?_
      focus
        refine GOps.s rfl rfl rfl (gop_store1 (b := ?_) tab_is rfl rfl rfl rfl rfl rfl ?_ ?_ ?_ ?_) ?_
        rotate_left 1
        refine (HExt.eq (by assumption) _ ?_ ?_).trans ?_
        · simp; done
        · simp; omega
        refine Hp.at_put_eq ?_
        · simp; done
        · rfl
        · exact Nat.le_of_ble_eq_true rfl
        · exact .inr (by simp; omega)
      refine GOps.nil ?_
      refine GWP.seq ?_
      refine GWP.region ?_
      refine GOps.r rfl rfl rfl rfl (grd_move rfl rfl) ?_
      focus
        refine GOps.w rfl rfl rfl rfl (gop_call rfl Tryd.call22 rfl ?_ (g_rnumG _ _ _ h3 _ ?_ _ _ ?_ ?_ ?_)) ?_
        · simp [Ctx.may]; omega
        · omega
        rotate_left 2
        refine rg_ne (b := ?_) ?_ ?_ ?_ ?_
        rotate_left 1
        focus
          · assumption
        refine (HExt.eq (by assumption) _ ?_ ?_).trans ?_
        · simp; done
        · simp; omega
        refine Hp.at_put_eq ?_
        · simp; done
        · omega
        · rfl
      rintro _ Hxc25 ⟨rfl, ⟨pc21, cc22, rc23⟩, kc24, xc25⟩
      have xc25l := HExt.len xc25; try simp at xc25l
      have rc23g := RG.hg rc23; unfold rdBlk at rc23g; have rc23q := Hp.at_lt rc23g
      refine GOps.r rfl rfl rfl rfl (grd_conv_in tab_is rfl rfl rfl rfl rfl ?_) ?_
      · refine wrap_i64_in ?_; omega
      refine GOps.r rfl rfl rfl rfl (grd_fieldAddr tab_is rfl rfl rfl rfl rfl) ?_
      focus
        refine GOps.s rfl rfl rfl (gop_store1 (b := ?_) tab_is rfl rfl rfl rfl rfl rfl ?_ ?_ ?_ ?_) ?_
        rotate_left 1
        refine (HExt.eq (by assumption) _ ?_ ?_).trans ?_
        · simp; omega
        · simp; omega
        refine Hp.at_put_eq ?_
        · omega
        · rfl
        · exact Nat.le_of_ble_eq_true rfl
        · exact .inr (by simp; omega)
      refine GOps.nil ?_
      refine GWP.seq ?_
      refine GWP.region ?_
      focus
        refine GOps.r rfl rfl rfl rfl (grd_loadNK (b := ?_) (cs := ?_) tab_is rfl rfl rfl rfl ?_ ?_ ?_) ?_
        rotate_left 2
        refine Hp.at_put_eq ?_
        · omega
        · exact Nat.le_of_ble_eq_true rfl
        · simp [Value.cells]; rfl
      refine GOps.w rfl rfl rfl rfl (gop_call rfl Tryd.call10 rfl ?_ (hR _)) ?_
      · intro _ h; cases h; done
      rintro _ Hxc26 ⟨rfl, xc26⟩
      have xc26l := HExt.len xc26; try simp at xc26l
      refine GOps.r rfl rfl rfl rfl (grd_assign rfl rfl) ?_
      refine GOps.nil ?_
      refine GWP.seq ?_
      refine GWP.seq ?_
      refine GWP.region ?_
      refine GOps.r rfl rfl rfl rfl (grd_move rfl rfl) ?_
      refine GOps.r rfl rfl rfl rfl (grd_nil rfl rfl) ?_
      refine GOps.r rfl rfl rfl rfl (grd_fieldAddr tab_is rfl rfl rfl rfl rfl) ?_
      focus
        refine GOps.r rfl rfl rfl rfl (grd_load1 (b := ?_) (v := ?_) tab_is rfl rfl rfl rfl ?_ ?_) ?_
        rotate_left 2
        refine (HExt.eq (by assumption) _ ?_ ?_).trans ?_
        · simp; omega
        · intro h; cases h; done
        refine (Hp.at_put_ne ?_).trans ?_
        · omega
        · assumption
        · rfl
      refine GOps.r rfl rfl rfl rfl (grd_neq rfl rfl rfl) ?_
      refine GOps.r rfl rfl rfl rfl (grd_move rfl rfl) ?_
      refine GOps.split rfl rfl (fun c27 => ?_) (fun c27 => ?_)
      simp only [beq_true, beq_false, Bool.not_true, Bool.not_false, Bool.not_eq_true', Bool.not_eq_false', decide_eq_true_eq, decide_eq_false_iff_not] at c27
      refine GOps.take rfl rfl ?_ ?_
      · exact beq_iff_eq.2 (decide_eq_false (by assumption))
      refine GOps.r rfl rfl rfl rfl (grd_move rfl rfl) ?_
      refine GOps.take rfl rfl ?_ ?_
      · exact beq_iff_eq.2 (decide_eq_false (by assumption))
      refine GOps.r rfl rfl rfl rfl (grd_nil rfl rfl) ?_
      refine GOps.take rfl rfl ?_ ?_
      · exact beq_iff_eq.2 (decide_eq_false (by assumption))
      refine GOps.r rfl rfl rfl rfl (grd_fieldAddr tab_is rfl rfl rfl rfl rfl) ?_
      refine GOps.take rfl rfl ?_ ?_
      · exact beq_iff_eq.2 (decide_eq_false (by assumption))
      focus
        refine GOps.r rfl rfl rfl rfl (grd_load1 (b := ?_) (v := ?_) tab_is rfl rfl rfl rfl ?_ ?_) ?_
        rotate_left 2
        refine (HExt.eq (by assumption) _ ?_ ?_).trans ?_
        · simp; omega
        · intro h; cases h; done
        refine (Hp.at_put_ne ?_).trans ?_
        · omega
        · assumption
        · rfl
      refine GOps.take rfl rfl ?_ ?_
      · exact beq_iff_eq.2 (decide_eq_false (by assumption))
      refine GOps.r rfl rfl rfl rfl (grd_len tab_is rfl rfl rfl rfl rfl) ?_
      refine GOps.take rfl rfl ?_ ?_
      · exact beq_iff_eq.2 (decide_eq_false (by assumption))
      refine GOps.r rfl rfl rfl rfl (grd_gtr rfl rfl rfl) ?_
      refine GOps.r rfl rfl rfl rfl (grd_pick_f rfl rfl ?_ rfl) ?_
      · exact decide_eq_false (by assumption)
      refine GOps.r rfl rfl rfl rfl (grd_move rfl rfl) ?_
      refine GOps.split rfl rfl (fun c28 => ?_) (fun c28 => ?_)
      simp only [beq_true, beq_false, Bool.not_true, Bool.not_false, Bool.not_eq_true', Bool.not_eq_false', decide_eq_true_eq, decide_eq_false_iff_not] at c28
      refine GOps.take rfl rfl ?_ ?_
      · exact beq_iff_eq.2 (decide_eq_false (by assumption))
      refine GOps.r rfl rfl rfl rfl (grd_move rfl rfl) ?_
      refine GOps.take rfl rfl ?_ ?_
      · exact beq_iff_eq.2 (decide_eq_false (by assumption))
      refine GOps.r rfl rfl rfl rfl (grd_not rfl rfl) ?_
      refine GOps.r rfl rfl rfl rfl (grd_pick_f rfl rfl ?_ rfl) ?_
      · exact decide_eq_false (by assumption)
      refine GOps.nil ?_
      refine GWP.cond_f rfl ?_ ?_
      · simp; done
      refine GWP.skip ?_
      refine GWP.seq ?_
      refine GWP.region ?_
      focus
        refine GOps.r rfl rfl rfl rfl (grd_loadNK (b := ?_) (cs := ?_) tab_is rfl rfl rfl rfl ?_ ?_ ?_) ?_
        rotate_left 2
        refine (HExt.eq (by assumption) _ ?_ ?_).trans ?_
        · simp; omega
        · intro h; cases h; done
        refine Hp.at_put_eq ?_
        · omega
        · exact Nat.le_of_ble_eq_true rfl
        · simp [Value.cells]; rfl
      focus
        refine GOps.s rfl rfl rfl (gop_storeC (b := ?_) (cs := ?_) tab_is rfl rfl ?_ rfl rfl ?_ ?_ ?_ ?_ ?_ ?_) ?_
        rotate_left 2
        · rfl
        · rfl
        refine (HExt.eq (by assumption) _ ?_ ?_).trans ?_
        · simp; omega
        · intro h; cases h; done
        refine (Hp.at_put_ne ?_).trans ?_
        · omega
        refine (HExt.eq (by assumption) _ ?_ ?_).trans ?_
        · simp; omega
        · simp; omega
        refine (Hp.at_put_ne ?_).trans ?_
        · omega
        refine (HExt.eq (by assumption) _ ?_ ?_).trans ?_
        · simp; omega
        · simp; omega
        refine (Hp.at_put_ne ?_).trans ?_
        · omega
        refine (Hp.at_push_lt ?_).trans ?_
        · omega
        refine (HExt.eq (by assumption) _ ?_ ?_).trans ?_
        · simp; omega
        · simp; omega
        refine (Hp.at_push_lt ?_).trans ?_
        · omega
        refine (HExt.eq (by assumption) _ ?_ ?_).trans ?_
        · simp; done
        · intro h; cases h; done
        · exact Hp.at_push_eq
        · rfl
        · exact Nat.le_of_ble_eq_true rfl
        · exact .inr (by simp)
        · simp [splice, Value.cells]; rfl
      refine GOps.r rfl rfl rfl rfl (grd_assign rfl rfl) ?_
      refine GOps.nil ?_
      refine GWP.ret ?_
      focus
        refine ⟨_, (.two (gres_cellNK (b := ?_) (cs := ?_) rfl rfl rfl ?_ ?_ ?_) (.one rfl)), ?_⟩
        rotate_left 2
        refine Hp.at_put_eq ?_
        · omega
        · exact Nat.le_of_ble_eq_true rfl
        · simp [Value.cells]; rfl
      refine ⟨?_, ?_⟩
      · rw [if_neg (by omega)]; rfl
      refine HExt.put ?_ ?_
      refine HExt.tr ?_ (by assumption) ?_
      refine HExt.put ?_ ?_
      refine HExt.tr ?_ (by assumption) ?_
      refine HExt.put ?_ ?_
      refine HExt.tr ?_ (by assumption) ?_
      refine HExt.put ?_ ?_
      refine HExt.push ?_
      refine HExt.tr ?_ (by assumption) ?_
      refine HExt.push ?_
      refine HExt.tr ?_ (by assumption) ?_
      refine HExt.push ?_
      · exact HExt.refl _ _
      · intro _ h; cases h; done
      · simp; omega
      · exact .inr (by omega)
      · simp; omega
      · exact .inr (by omega)
      · simp; omega
      · exact .inr (by omega)
      · intro _ h; cases h; done
      · exact .inr (by omega)
      simp only [beq_true, beq_false, Bool.not_true, Bool.not_false, Bool.not_eq_true', Bool.not_eq_false', decide_eq_true_eq, decide_eq_false_iff_not] at c28
      refine GOps.no rfl ?_ rfl rfl ?_
      · exact beq_eq_false_iff_ne.2 (by rw [decide_eq_true (by assumption)]; decide)
      refine GOps.no rfl ?_ rfl rfl ?_
      · exact beq_eq_false_iff_ne.2 (by rw [decide_eq_true (by assumption)]; decide)
      refine GOps.r rfl rfl rfl rfl (grd_pick_t rfl rfl ?_ rfl) ?_
      · exact decide_eq_true (by assumption)
      refine GOps.nil ?_
      refine GWP.cond_t rfl ?_ ?_
      · with_reducible rfl
      refine GWP.seq ?_
      refine GWP.region ?_
      focus
        refine GOps.r rfl rfl rfl rfl (grd_build (cs := ?_) tab_is rfl rfl rfl ?_ rfl ?_) ?_
        rotate_left 1
        · decide
        · simp [gfill, gsets, Value.cells]; rfl
      focus
        refine GOps.s rfl rfl rfl (gop_storeC (b := ?_) (cs := ?_) tab_is rfl rfl ?_ rfl rfl ?_ ?_ ?_ ?_ ?_ ?_) ?_
        rotate_left 2
        · rfl
        · rfl
        refine (HExt.eq (by assumption) _ ?_ ?_).trans ?_
        · simp; omega
        · intro h; cases h; done
        refine (Hp.at_put_ne ?_).trans ?_
        · omega
        refine (HExt.eq (by assumption) _ ?_ ?_).trans ?_
        · simp; omega
        · simp; omega
        refine (Hp.at_put_ne ?_).trans ?_
        · omega
        refine (HExt.eq (by assumption) _ ?_ ?_).trans ?_
        · simp; omega
        · simp; omega
        refine (Hp.at_put_ne ?_).trans ?_
        · omega
        refine (Hp.at_push_lt ?_).trans ?_
        · omega
        refine (HExt.eq (by assumption) _ ?_ ?_).trans ?_
        · simp; omega
        · simp; omega
        refine (Hp.at_push_lt ?_).trans ?_
        · omega
        refine (HExt.eq (by assumption) _ ?_ ?_).trans ?_
        · simp; done
        · intro h; cases h; done
        · exact Hp.at_push_eq
        · rfl
        · decide
        · exact .inr (by simp)
        · simp [splice, Value.cells]; rfl
      refine GOps.r rfl rfl rfl rfl (grd_assign rfl rfl) ?_
      refine GOps.nil ?_
      refine GWP.ret ?_
      focus
        refine ⟨_, (.two (gres_cellNK (b := ?_) (cs := ?_) rfl rfl rfl ?_ ?_ ?_) (.one rfl)), ?_⟩
        rotate_left 2
        refine Hp.at_put_eq ?_
        · omega
        · decide
        · simp [Value.cells]; rfl
      refine ⟨?_, ?_⟩
      · rw [if_pos (by omega)]; rfl
      refine HExt.put ?_ ?_
      refine HExt.tr ?_ (by assumption) ?_
      refine HExt.put ?_ ?_
      refine HExt.tr ?_ (by assumption) ?_
      refine HExt.put ?_ ?_
      refine HExt.tr ?_ (by assumption) ?_
      refine HExt.put ?_ ?_
      refine HExt.push ?_
      refine HExt.tr ?_ (by assumption) ?_
      refine HExt.push ?_
      refine HExt.tr ?_ (by assumption) ?_
      refine HExt.push ?_
      · exact HExt.refl _ _
      · intro _ h; cases h; done
      · simp; omega
      · exact .inr (by omega)
      · simp; omega
      · exact .inr (by omega)
      · simp; omega
      · exact .inr (by omega)
      · intro _ h; cases h; done
      · exact .inr (by omega)
      simp only [beq_true, beq_false, Bool.not_true, Bool.not_false, Bool.not_eq_true', Bool.not_eq_false', decide_eq_true_eq, decide_eq_false_iff_not] at c27
      refine GOps.no rfl ?_ rfl rfl ?_
      · exact beq_eq_false_iff_ne.2 (by rw [decide_eq_true (by assumption)]; decide)
      refine GOps.no rfl ?_ rfl rfl ?_
      · exact beq_eq_false_iff_ne.2 (by rw [decide_eq_true (by assumption)]; decide)
      refine GOps.no rfl ?_ rfl rfl ?_
      · exact beq_eq_false_iff_ne.2 (by rw [decide_eq_true (by assumption)]; decide)
      refine GOps.no rfl ?_ rfl rfl ?_
      · exact beq_eq_false_iff_ne.2 (by rw [decide_eq_true (by assumption)]; decide)
      refine GOps.no rfl ?_ rfl rfl ?_
      · exact beq_eq_false_iff_ne.2 (by rw [decide_eq_true (by assumption)]; decide)
      refine GOps.no rfl ?_ rfl rfl ?_
      · exact beq_eq_false_iff_ne.2 (by rw [decide_eq_true (by assumption)]; decide)
      refine GOps.r rfl rfl rfl rfl (grd_pick_t rfl rfl ?_ rfl) ?_
      · exact decide_eq_true (by assumption)
      refine GOps.r rfl rfl rfl rfl (grd_move rfl rfl) ?_
      refine GOps.no rfl ?_ rfl rfl ?_
      · simp; done
      refine GOps.no rfl ?_ rfl rfl ?_
      · simp; done
      refine GOps.r rfl rfl rfl rfl (grd_pick_t rfl rfl ?_ rfl) ?_
      · with_reducible rfl
      refine GOps.nil ?_
      refine GWP.cond_t rfl ?_ ?_
      · with_reducible rfl
      refine GWP.seq ?_
      refine GWP.region ?_
      focus
        refine GOps.r rfl rfl rfl rfl (grd_build (cs := ?_) tab_is rfl rfl rfl ?_ rfl ?_) ?_
        rotate_left 1
        · decide
        · simp [gfill, gsets, Value.cells]; rfl
      focus
        refine GOps.s rfl rfl rfl (gop_storeC (b := ?_) (cs := ?_) tab_is rfl rfl ?_ rfl rfl ?_ ?_ ?_ ?_ ?_ ?_) ?_
        rotate_left 2
        · rfl
        · rfl
        refine (HExt.eq (by assumption) _ ?_ ?_).trans ?_
        · simp; omega
        · intro h; cases h; done
        refine (Hp.at_put_ne ?_).trans ?_
        · omega
        refine (HExt.eq (by assumption) _ ?_ ?_).trans ?_
        · simp; omega
        · simp; omega
        refine (Hp.at_put_ne ?_).trans ?_
        · omega
        refine (HExt.eq (by assumption) _ ?_ ?_).trans ?_
        · simp; omega
        · simp; omega
        refine (Hp.at_put_ne ?_).trans ?_
        · omega
        refine (Hp.at_push_lt ?_).trans ?_
        · omega
        refine (HExt.eq (by assumption) _ ?_ ?_).trans ?_
        · simp; omega
        · simp; omega
        refine (Hp.at_push_lt ?_).trans ?_
        · omega
        refine (HExt.eq (by assumption) _ ?_ ?_).trans ?_
        · simp; done
        · intro h; cases h; done
        · exact Hp.at_push_eq
        · rfl
        · decide
        · exact .inr (by simp)
        · simp [splice, Value.cells]; rfl
      refine GOps.r rfl rfl rfl rfl (grd_assign rfl rfl) ?_
      refine GOps.nil ?_
      refine GWP.ret ?_
      focus
        refine ⟨_, (.two (gres_cellNK (b := ?_) (cs := ?_) rfl rfl rfl ?_ ?_ ?_) (.one rfl)), ?_⟩
        rotate_left 2
        refine Hp.at_put_eq ?_
        · omega
        · decide
        · simp [Value.cells]; rfl
      refine ⟨?_, ?_⟩
      · rw [if_pos (by omega)]; rfl
      refine HExt.put ?_ ?_
      refine HExt.tr ?_ (by assumption) ?_
      refine HExt.put ?_ ?_
      refine HExt.tr ?_ (by assumption) ?_
      refine HExt.put ?_ ?_
      refine HExt.tr ?_ (by assumption) ?_
      refine HExt.put ?_ ?_
      refine HExt.push ?_
      refine HExt.tr ?_ (by assumption) ?_
      refine HExt.push ?_
      refine HExt.tr ?_ (by assumption) ?_
      refine HExt.push ?_
      · exact HExt.refl _ _
      · intro _ h; cases h; done
      · simp; omega
      · exact .inr (by omega)
      · simp; omega
      · exact .inr (by omega)
      · simp; omega
      · exact .inr (by omega)
      · intro _ h; cases h; done
      · exact .inr (by omega)
  · rw [decide_eq_false hg] at hR
    simp only [hg, not_false_eq_true, or_true, if_true]
    refine GCalls.body tab_is Tryd.func7 rfl Tryd.results7 Tryd.ntmps7 (by simp) ?_ ?_
    · first | (intro _ h; cases h; done) | (simp; done) | (simp; omega) | (intro i hi; simp at hi; rcases hi with rfl | rfl <;> omega) | (intro i hi; simp at hi; rcases hi with rfl | rfl | rfl <;> omega)
    focus
      refine GWP.seq ?_
      refine GWP.region ?_
      focus
        refine GOps.w1 rfl rfl rfl rfl (gop_alloc' (id := ?_) ?_ tab_is rfl rfl ?_) ?_
        rotate_left 1
        · rfl
        · decide
      refine GOps.r rfl rfl rfl rfl (grd_assign rfl rfl) ?_
      refine GOps.nil ?_
      refine GWP.seq ?_
      refine GWP.region ?_
      refine GOps.r rfl rfl rfl rfl (grd_move rfl rfl) ?_
      refine GOps.w rfl rfl rfl rfl (gop_call rfl Tryd.call20 rfl ?_ (hO _ _ _ _ ?_ ?_)) ?_
      · intro _ h; cases h; done
      focus
        refine BS.ext (by assumption) ?_
        refine HExt.push ?_
        · exact HExt.refl _ _
      · omega
      rintro _ Hxd5 ⟨⟨pd1, nd2, cd3, rfl, bd4⟩, xd5⟩
      have xd5l := HExt.len xd5; try simp at xd5l
      have bd4n := BS.len bd4; try simp at bd4n; try subst bd4n
      refine GOps.r rfl rfl rfl rfl (grd_move rfl rfl) ?_
      focus
        refine GOps.r rfl rfl rfl rfl (grd_extract (v := ?_) rfl rfl ?_) ?_
        rotate_left 1
        · simp only [List.getElem?_toArray, List.getElem?_cons_zero, List.getElem?_cons_succ]; rfl
      focus
        refine GOps.r rfl rfl rfl rfl (grd_extract (v := ?_) rfl rfl ?_) ?_
        rotate_left 1
        · simp only [List.getElem?_toArray, List.getElem?_cons_zero, List.getElem?_cons_succ]; rfl
      refine GOps.r rfl rfl rfl rfl (grd_assign rfl rfl) ?_
      refine GOps.r rfl rfl rfl rfl (grd_assign rfl rfl) ?_
      refine GOps.nil ?_
      refine GWP.seq ?_
      refine GWP.seq ?_
      refine GWP.region ?_
      refine GOps.r rfl rfl rfl rfl (grd_move rfl rfl) ?_
      refine GOps.r rfl rfl rfl rfl (grd_not rfl rfl) ?_
      refine GOps.nil ?_
      refine GWP.cond_f rfl ?_ ?_
      · simp; done
      refine GWP.skip ?_
      refine GWP.seq ?_
      refine GWP.seq ?_
      refine GWP.region ?_
      refine GOps.r rfl rfl rfl rfl (grd_move rfl rfl) ?_
      refine GOps.r rfl rfl rfl rfl (grd_len tab_is rfl rfl rfl rfl rfl) ?_
      refine GOps.r rfl rfl rfl rfl (grd_eql rfl rfl rfl) ?_
      refine GOps.r rfl rfl rfl rfl (grd_move rfl rfl) ?_
      refine GOps.take rfl rfl ?_ ?_
      · simp; omega
      refine GOps.r rfl rfl rfl rfl (grd_move rfl rfl) ?_
      refine GOps.take rfl rfl ?_ ?_
      · simp; omega
      focus
        refine GOps.r rfl rfl rfl rfl (grd_indexBS (q := ?_) (L := ?_) tab_is rfl rfl rfl rfl rfl ?_ ?_ ?_) ?_
        rotate_left 2
        · assumption
        · rfl
        · exact Nat.le_of_ble_eq_true rfl
      refine GOps.take rfl rfl ?_ ?_
      · simp; omega
      focus
        refine GOps.re rfl rfl rfl rfl (grd_loadBSK (n := ?_) (c := ?_) (L := ?_) (u := ?_) tab_is rfl rfl rfl rfl ?_ ?_ ?_) ?_
        rotate_left 4
        · assumption
        · exact Nat.le_of_ble_eq_true rfl
        · simp only [List.getD_cons_zero]; rfl
      refine GOps.take rfl rfl ?_ ?_
      · simp; omega
      refine GOps.r rfl rfl rfl rfl (grd_neq rfl rfl rfl) ?_
      refine GOps.r rfl rfl rfl rfl (grd_pick_f rfl rfl ?_ rfl) ?_
      · exact decide_eq_false (by omega)
      refine GOps.nil ?_
      refine GWP.cond_f rfl ?_ ?_
      · simp; done
      refine GWP.skip ?_
      refine GWP.seq ?_
      refine GWP.region ?_
      refine GOps.r rfl rfl rfl rfl (grd_move rfl rfl) ?_
      focus
        refine gops_bs rfl rfl rfl rfl (grd_slBS (l := ?_) (h := ?_) (m2 := ?_) (L := ?_) (M := ?_) tab_is rfl rfl rfl rfl ?_ ?_ ?_ ?_ ?_ ?_ ?_) ?_
        rotate_left 5
        · assumption
        · refine gbound_const ?_; exact rfl
        · exact rfl
        · exact Nat.le_of_ble_eq_true rfl
        · omega
        · simp; rfl
        · refine Eq.trans (List.take_of_length_le ?_) ?_; rotate_left 1; rfl; (simp; done)
      intro pd6 cd6 d6
      have d6n := BS.len d6
      focus
        refine GOps.r rfl rfl rfl rfl (grd_build (cs := ?_) tab_is rfl rfl rfl ?_ rfl ?_) ?_
        rotate_left 1
        · decide
        · simp [gfill, gsets, Value.cells]; rfl
      focus
        refine GOps.w1 rfl rfl rfl rfl (gop_box' (id := ?_) ?_ rfl rfl rfl) ?_
        rotate_left 1
        · rfl
      refine GOps.r rfl rfl rfl rfl (grd_assign rfl rfl) ?_
      refine GOps.nil ?_
      refine GWP.seq ?_
      refine GWP.region ?_
      refine GOps.r rfl rfl rfl rfl (grd_move rfl rfl) ?_
      focus
        refine GOps.w rfl rfl rfl rfl (gop_call rfl Tryd.call21 rfl ?_ (hB _ _ ?_ ?_ ?_)) ?_
        · simp [Ctx.may]; omega
        rotate_left 2
        refine rg_mk (b := ?_) ?_ ?_ ?_ ?_
        rotate_left 1
        · exact Hp.at_push_eq
        · rfl
        focus
          refine BS.ext (by assumption) ?_
          refine HExt.push ?_
          · exact HExt.refl _ _
        · simp only; omega
      rintro _ Hxd15 ⟨⟨pd7, nd8, cd9, rfl, bd10⟩, ⟨pd11, cd12, rd13⟩, kd14, xd15⟩
      have xd15l := HExt.len xd15; try simp at xd15l
      have bd10n := BS.len bd10; try simp at bd10n; try subst bd10n
      have rd13g := RG.hg rd13; unfold rdBlk at rd13g; have rd13q := Hp.at_lt rd13g
      focus
        refine GOps.r rfl rfl rfl rfl (grd_strBP (L := ?_) tab_is rfl rfl rfl rfl rfl rfl rfl rfl ?_) ?_
        rotate_left 1
        · assumption
      focus
        refine GOps.r rfl rfl rfl rfl (grd_build (cs := ?_) tab_is rfl rfl rfl ?_ rfl ?_) ?_
        rotate_left 1
        · decide
        · simp [gfill, gsets, Value.cells]; rfl
      focus
        refine GOps.w1 rfl rfl rfl rfl (gop_alloc' (id := ?_) ?_ tab_is rfl rfl ?_) ?_
        rotate_left 1
        · rfl
        · decide
      focus
        refine GOps.s rfl rfl rfl (gop_storeC (b := ?_) (cs := ?_) tab_is rfl rfl ?_ rfl rfl ?_ ?_ ?_ ?_ ?_ ?_) ?_
        rotate_left 2
        · rfl
        · rfl
        · exact Hp.at_push_eq
        · rfl
        · exact Nat.le_of_ble_eq_true rfl
        · exact .inr (by simp; omega)
        · simp [splice, Value.cells]; rfl
      refine GOps.nil ?_
      refine GWP.seq ?_
      refine GWP.region ?_
      refine GOps.r rfl rfl rfl rfl (grd_move rfl rfl) ?_
      focus
        refine GOps.w rfl rfl rfl rfl (gop_call rfl Tryd.call22 rfl ?_ (g_rnumG _ _ _ h2 _ ?_ _ _ ?_ ?_ ?_)) ?_
        · simp [Ctx.may]; omega
        · omega
        rotate_left 2
        refine rg_ext (by assumption) ?_
        refine HExt.put ?_ ?_
        refine HExt.push ?_
        · exact HExt.refl _ _
        · exact .inr (by omega)
      rintro _ Hxd20 ⟨rfl, ⟨pd16, cd17, rd18⟩, kd19, xd20⟩
      have xd20l := HExt.len xd20; try simp at xd20l
      have rd18g := RG.hg rd18; unfold rdBlk at rd18g; have rd18q := Hp.at_lt rd18g
      refine GOps.r rfl rfl rfl rfl (grd_conv_in tab_is rfl rfl rfl rfl rfl ?_) ?_
      · refine wrap_i64_in ?_; omega
      refine GOps.r rfl rfl rfl rfl (grd_fieldAddr tab_is rfl rfl rfl rfl rfl) ?_
      focus
        refine GOps.s rfl rfl rfl (gop_store1 (b := ?_) tab_is rfl rfl rfl rfl rfl rfl ?_ ?_ ?_ ?_) ?_
        rotate_left 1
        refine (HExt.eq (by assumption) _ ?_ ?_).trans ?_
        · simp; done
        · simp; omega
        refine Hp.at_put_eq ?_
        · simp; done
        · rfl
        · exact Nat.le_of_ble_eq_true rfl
        · exact .inr (by simp; omega)
      refine GOps.nil ?_
      refine GWP.seq ?_
      refine GWP.region ?_
      refine GOps.r rfl rfl rfl rfl (grd_move rfl rfl) ?_
      focus
        refine GOps.w rfl rfl rfl rfl (gop_call rfl Tryd.call22 rfl ?_ (g_rnumG _ _ _ h3 _ ?_ _ _ ?_ ?_ ?_)) ?_
        · simp [Ctx.may]; omega
        · omega
        rotate_left 2
        refine rg_ne (b := ?_) ?_ ?_ ?_ ?_
        rotate_left 1
        focus
          · assumption
        refine (HExt.eq (by assumption) _ ?_ ?_).trans ?_
        · simp; done
        · simp; omega
        refine Hp.at_put_eq ?_
        · simp; done
        · omega
        · rfl
      rintro _ Hxd25 ⟨rfl, ⟨pd21, cd22, rd23⟩, kd24, xd25⟩
      have xd25l := HExt.len xd25; try simp at xd25l
      have rd23g := RG.hg rd23; unfold rdBlk at rd23g; have rd23q := Hp.at_lt rd23g
      refine GOps.r rfl rfl rfl rfl (grd_conv_in tab_is rfl rfl rfl rfl rfl ?_) ?_
      · refine wrap_i64_in ?_; omega
      refine GOps.r rfl rfl rfl rfl (grd_fieldAddr tab_is rfl rfl rfl rfl rfl) ?_
      focus
        refine GOps.s rfl rfl rfl (gop_store1 (b := ?_) tab_is rfl rfl rfl rfl rfl rfl ?_ ?_ ?_ ?_) ?_
        rotate_left 1
        refine (HExt.eq (by assumption) _ ?_ ?_).trans ?_
        · simp; omega
        · simp; omega
        refine Hp.at_put_eq ?_
        · omega
        · rfl
        · exact Nat.le_of_ble_eq_true rfl
        · exact .inr (by simp; omega)
      refine GOps.nil ?_
      refine GWP.seq ?_
      refine GWP.region ?_
      focus
        refine GOps.r rfl rfl rfl rfl (grd_loadNK (b := ?_) (cs := ?_) tab_is rfl rfl rfl rfl ?_ ?_ ?_) ?_
        rotate_left 2
        refine Hp.at_put_eq ?_
        · omega
        · exact Nat.le_of_ble_eq_true rfl
        · simp [Value.cells]; rfl
      refine GOps.w rfl rfl rfl rfl (gop_call rfl Tryd.call10 rfl ?_ (hR _)) ?_
      · intro _ h; cases h; done
      rintro _ Hxd26 ⟨rfl, xd26⟩
      have xd26l := HExt.len xd26; try simp at xd26l
      refine GOps.r rfl rfl rfl rfl (grd_assign rfl rfl) ?_
      refine GOps.nil ?_
      refine GWP.seq ?_
      refine GWP.seq ?_
      refine GWP.region ?_
      refine GOps.r rfl rfl rfl rfl (grd_move rfl rfl) ?_
      refine GOps.r rfl rfl rfl rfl (grd_nil rfl rfl) ?_
      refine GOps.r rfl rfl rfl rfl (grd_fieldAddr tab_is rfl rfl rfl rfl rfl) ?_
      focus
        refine GOps.r rfl rfl rfl rfl (grd_load1 (b := ?_) (v := ?_) tab_is rfl rfl rfl rfl ?_ ?_) ?_
        rotate_left 2
        refine (HExt.eq (by assumption) _ ?_ ?_).trans ?_
        · simp; omega
        · intro h; cases h; done
        refine (Hp.at_put_ne ?_).trans ?_
        · omega
        · assumption
        · rfl
      refine GOps.r rfl rfl rfl rfl (grd_neq rfl rfl rfl) ?_
      refine GOps.r rfl rfl rfl rfl (grd_move rfl rfl) ?_
      refine GOps.split rfl rfl (fun d27 => ?_) (fun d27 => ?_)
      simp only [beq_true, beq_false, Bool.not_true, Bool.not_false, Bool.not_eq_true', Bool.not_eq_false', decide_eq_true_eq, decide_eq_false_iff_not] at d27
      refine GOps.take rfl rfl ?_ ?_
      · exact beq_iff_eq.2 (decide_eq_false (by assumption))
      refine GOps.r rfl rfl rfl rfl (grd_move rfl rfl) ?_
      refine GOps.take rfl rfl ?_ ?_
      · exact beq_iff_eq.2 (decide_eq_false (by assumption))
      refine GOps.r rfl rfl rfl rfl (grd_nil rfl rfl) ?_
      refine GOps.take rfl rfl ?_ ?_
      · exact beq_iff_eq.2 (decide_eq_false (by assumption))
      refine GOps.r rfl rfl rfl rfl (grd_fieldAddr tab_is rfl rfl rfl rfl rfl) ?_
      refine GOps.take rfl rfl ?_ ?_
      · exact beq_iff_eq.2 (decide_eq_false (by assumption))
      focus
        refine GOps.r rfl rfl rfl rfl (grd_load1 (b := ?_) (v := ?_) tab_is rfl rfl rfl rfl ?_ ?_) ?_
        rotate_left 2
        refine (HExt.eq (by assumption) _ ?_ ?_).trans ?_
        · simp; omega
        · intro h; cases h; done
        refine (Hp.at_put_ne ?_).trans ?_
        · omega
        · assumption
        · rfl
      refine GOps.take rfl rfl ?_ ?_
      · exact beq_iff_eq.2 (decide_eq_false (by assumption))
      refine GOps.r rfl rfl rfl rfl (grd_len tab_is rfl rfl rfl rfl rfl) ?_
      refine GOps.take rfl rfl ?_ ?_
      · exact beq_iff_eq.2 (decide_eq_false (by assumption))
      refine GOps.r rfl rfl rfl rfl (grd_gtr rfl rfl rfl) ?_
      refine GOps.r rfl rfl rfl rfl (grd_pick_f rfl rfl ?_ rfl) ?_
      · exact decide_eq_false (by assumption)
      refine GOps.r rfl rfl rfl rfl (grd_move rfl rfl) ?_
      refine GOps.split rfl rfl (fun d28 => ?_) (fun d28 => ?_)
      simp only [beq_true, beq_false, Bool.not_true, Bool.not_false, Bool.not_eq_true', Bool.not_eq_false', decide_eq_true_eq, decide_eq_false_iff_not] at d28
      refine GOps.take rfl rfl ?_ ?_
      · exact beq_iff_eq.2 (decide_eq_false (by assumption))
      refine GOps.r rfl rfl rfl rfl (grd_move rfl rfl) ?_
      refine GOps.take rfl rfl ?_ ?_
      · exact beq_iff_eq.2 (decide_eq_false (by assumption))
      refine GOps.r rfl rfl rfl rfl (grd_not rfl rfl) ?_
      refine GOps.r rfl rfl rfl rfl (grd_pick_f rfl rfl ?_ rfl) ?_
      · exact decide_eq_false (by assumption)
      refine GOps.nil ?_
      refine GWP.cond_t rfl ?_ ?_
      · simp; done
      refine GWP.seq ?_
      refine GWP.region ?_
      focus
        refine GOps.r rfl rfl rfl rfl (grd_build (cs := ?_) tab_is rfl rfl rfl ?_ rfl ?_) ?_
        rotate_left 1
        · decide
        · simp [gfill, gsets, Value.cells]; rfl
      focus
        refine GOps.s rfl rfl rfl (gop_storeC (b := ?_) (cs := ?_) tab_is rfl rfl ?_ rfl rfl ?_ ?_ ?_ ?_ ?_ ?_) ?_
        rotate_left 2
        · rfl
        · rfl
        refine (HExt.eq (by assumption) _ ?_ ?_).trans ?_
        · simp; omega
        · intro h; cases h; done
        refine (Hp.at_put_ne ?_).trans ?_
        · omega
        refine (HExt.eq (by assumption) _ ?_ ?_).trans ?_
        · simp; omega
        · simp; omega
        refine (Hp.at_put_ne ?_).trans ?_
        · omega
        refine (HExt.eq (by assumption) _ ?_ ?_).trans ?_
        · simp; omega
        · simp; omega
        refine (Hp.at_put_ne ?_).trans ?_
        · omega
        refine (Hp.at_push_lt ?_).trans ?_
        · omega
        refine (HExt.eq (by assumption) _ ?_ ?_).trans ?_
        · simp; omega
        · simp; omega
        refine (Hp.at_push_lt ?_).trans ?_
        · omega
        refine (HExt.eq (by assumption) _ ?_ ?_).trans ?_
        · simp; done
        · intro h; cases h; done
        · exact Hp.at_push_eq
        · rfl
        · decide
        · exact .inr (by simp)
        · simp [splice, Value.cells]; rfl
      refine GOps.r rfl rfl rfl rfl (grd_assign rfl rfl) ?_
      refine GOps.nil ?_
      refine GWP.ret ?_
      focus
        refine ⟨_, (.two (gres_cellNK (b := ?_) (cs := ?_) rfl rfl rfl ?_ ?_ ?_) (.one rfl)), ?_⟩
        rotate_left 2
        refine Hp.at_put_eq ?_
        · omega
        · decide
        · simp [Value.cells]; rfl
      refine ⟨?_, ?_⟩
      · rfl
      refine HExt.put ?_ ?_
      refine HExt.tr ?_ (by assumption) ?_
      refine HExt.put ?_ ?_
      refine HExt.tr ?_ (by assumption) ?_
      refine HExt.put ?_ ?_
      refine HExt.tr ?_ (by assumption) ?_
      refine HExt.put ?_ ?_
      refine HExt.push ?_
      refine HExt.tr ?_ (by assumption) ?_
      refine HExt.push ?_
      refine HExt.tr ?_ (by assumption) ?_
      refine HExt.push ?_
      · exact HExt.refl _ _
      · intro _ h; cases h; done
      · simp; omega
      · exact .inr (by omega)
      · simp; omega
      · exact .inr (by omega)
      · simp; omega
      · exact .inr (by omega)
      · intro _ h; cases h; done
      · exact .inr (by omega)
      simp only [beq_true, beq_false, Bool.not_true, Bool.not_false, Bool.not_eq_true', Bool.not_eq_false', decide_eq_true_eq, decide_eq_false_iff_not] at d28
      refine GOps.no rfl ?_ rfl rfl ?_
      · exact beq_eq_false_iff_ne.2 (by rw [decide_eq_true (by assumption)]; decide)
      refine GOps.no rfl ?_ rfl rfl ?_
      · exact beq_eq_false_iff_ne.2 (by rw [decide_eq_true (by assumption)]; decide)
      refine GOps.r rfl rfl rfl rfl (grd_pick_t rfl rfl ?_ rfl) ?_
      · exact decide_eq_true (by assumption)
      refine GOps.nil ?_
      refine GWP.cond_t rfl ?_ ?_
      · with_reducible rfl
      refine GWP.seq ?_
      refine GWP.region ?_
      focus
        refine GOps.r rfl rfl rfl rfl (grd_build (cs := ?_) tab_is rfl rfl rfl ?_ rfl ?_) ?_
        rotate_left 1
        · decide
        · simp [gfill, gsets, Value.cells]; rfl
      focus
        refine GOps.s rfl rfl rfl (gop_storeC (b := ?_) (cs := ?_) tab_is rfl rfl ?_ rfl rfl ?_ ?_ ?_ ?_ ?_ ?_) ?_
        rotate_left 2
        · rfl
        · rfl
        refine (HExt.eq (by assumption) _ ?_ ?_).trans ?_
        · simp; omega
        · intro h; cases h; done
        refine (Hp.at_put_ne ?_).trans ?_
        · omega
        refine (HExt.eq (by assumption) _ ?_ ?_).trans ?_
        · simp; omega
        · simp; omega
        refine (Hp.at_put_ne ?_).trans ?_
        · omega
        refine (HExt.eq (by assumption) _ ?_ ?_).trans ?_
        · simp; omega
        · simp; omega
        refine (Hp.at_put_ne ?_).trans ?_
        · omega
        refine (Hp.at_push_lt ?_).trans ?_
        · omega
        refine (HExt.eq (by assumption) _ ?_ ?_).trans ?_
        · simp; omega
        · simp; omega
        refine (Hp.at_push_lt ?_).trans ?_
        · omega
        refine (HExt.eq (by assumption) _ ?_ ?_).trans ?_
        · simp; done
        · intro h; cases h; done
        · exact Hp.at_push_eq
        · rfl
        · decide
        · exact .inr (by simp)
        · simp [splice, Value.cells]; rfl
      refine GOps.r rfl rfl rfl rfl (grd_assign rfl rfl) ?_
      refine GOps.nil ?_
      refine GWP.ret ?_
      focus
        refine ⟨_, (.two (gres_cellNK (b := ?_) (cs := ?_) rfl rfl rfl ?_ ?_ ?_) (.one rfl)), ?_⟩
        rotate_left 2
        refine Hp.at_put_eq ?_
        · omega
        · decide
        · simp [Value.cells]; rfl
      refine ⟨?_, ?_⟩
      · rfl
      refine HExt.put ?_ ?_
      refine HExt.tr ?_ (by assumption) ?_
      refine HExt.put ?_ ?_
      refine HExt.tr ?_ (by assumption) ?_
      refine HExt.put ?_ ?_
      refine HExt.tr ?_ (by assumption) ?_
      refine HExt.put ?_ ?_
      refine HExt.push ?_
      refine HExt.tr ?_ (by assumption) ?_
      refine HExt.push ?_
      refine HExt.tr ?_ (by assumption) ?_
      refine HExt.push ?_
      · exact HExt.refl _ _
      · intro _ h; cases h; done
      · simp; omega
      · exact .inr (by omega)
      · simp; omega
      · exact .inr (by omega)
      · simp; omega
      · exact .inr (by omega)
      · intro _ h; cases h; done
      · exact .inr (by omega)
      simp only [beq_true, beq_false, Bool.not_true, Bool.not_false, Bool.not_eq_true', Bool.not_eq_false', decide_eq_true_eq, decide_eq_false_iff_not] at d27
      refine GOps.no rfl ?_ rfl rfl ?_
      · exact beq_eq_false_iff_ne.2 (by rw [decide_eq_true (by assumption)]; decide)
      refine GOps.no rfl ?_ rfl rfl ?_
      · exact beq_eq_false_iff_ne.2 (by rw [decide_eq_true (by assumption)]; decide)
      refine GOps.no rfl ?_ rfl rfl ?_
      · exact beq_eq_false_iff_ne.2 (by rw [decide_eq_true (by assumption)]; decide)
      refine GOps.no rfl ?_ rfl rfl ?_
      · exact beq_eq_false_iff_ne.2 (by rw [decide_eq_true (by assumption)]; decide)
      refine GOps.no rfl ?_ rfl rfl ?_
      · exact beq_eq_false_iff_ne.2 (by rw [decide_eq_true (by assumption)]; decide)
      refine GOps.no rfl ?_ rfl rfl ?_
      · exact beq_eq_false_iff_ne.2 (by rw [decide_eq_true (by assumption)]; decide)
      refine GOps.r rfl rfl rfl rfl (grd_pick_t rfl rfl ?_ rfl) ?_
      · exact decide_eq_true (by assumption)
      refine GOps.r rfl rfl rfl rfl (grd_move rfl rfl) ?_
      refine GOps.no rfl ?_ rfl rfl ?_
      · simp; done
      refine GOps.no rfl ?_ rfl rfl ?_
      · simp; done
      refine GOps.r rfl rfl rfl rfl (grd_pick_t rfl rfl ?_ rfl) ?_
      · with_reducible rfl
      refine GOps.nil ?_
      refine GWP.cond_t rfl ?_ ?_
      · with_reducible rfl
      refine GWP.seq ?_
      refine GWP.region ?_
      focus
        refine GOps.r rfl rfl rfl rfl (grd_build (cs := ?_) tab_is rfl rfl rfl ?_ rfl ?_) ?_
        rotate_left 1
        · decide
        · simp [gfill, gsets, Value.cells]; rfl
      focus
        refine GOps.s rfl rfl rfl (gop_storeC (b := ?_) (cs := ?_) tab_is rfl rfl ?_ rfl rfl ?_ ?_ ?_ ?_ ?_ ?_) ?_
        rotate_left 2
        · rfl
        · rfl
        refine (HExt.eq (by assumption) _ ?_ ?_).trans ?_
        · simp; omega
        · intro h; cases h; done
        refine (Hp.at_put_ne ?_).trans ?_
        · omega
        refine (HExt.eq (by assumption) _ ?_ ?_).trans ?_
        · simp; omega
        · simp; omega
        refine (Hp.at_put_ne ?_).trans ?_
        · omega
        refine (HExt.eq (by assumption) _ ?_ ?_).trans ?_
        · simp; omega
        · simp; omega
        refine (Hp.at_put_ne ?_).trans ?_
        · omega
        refine (Hp.at_push_lt ?_).trans ?_
        · omega
        refine (HExt.eq (by assumption) _ ?_ ?_).trans ?_
        · simp; omega
        · simp; omega
        refine (Hp.at_push_lt ?_).trans ?_
        · omega
        refine (HExt.eq (by assumption) _ ?_ ?_).trans ?_
        · simp; done
        · intro h; cases h; done
        · exact Hp.at_push_eq
        · rfl
        · decide
        · exact .inr (by simp)
        · simp [splice, Value.cells]; rfl
      refine GOps.r rfl rfl rfl rfl (grd_assign rfl rfl) ?_
      refine GOps.nil ?_
      refine GWP.ret ?_
      focus
        refine ⟨_, (.two (gres_cellNK (b := ?_) (cs := ?_) rfl rfl rfl ?_ ?_ ?_) (.one rfl)), ?_⟩
        rotate_left 2
        refine Hp.at_put_eq ?_
        · omega
        · decide
        · simp [Value.cells]; rfl
      refine ⟨?_, ?_⟩
      · rfl
      refine HExt.put ?_ ?_
      refine HExt.tr ?_ (by assumption) ?_
      refine HExt.put ?_ ?_
      refine HExt.tr ?_ (by assumption) ?_
      refine HExt.put ?_ ?_
      refine HExt.tr ?_ (by assumption) ?_
      refine HExt.put ?_ ?_
      refine HExt.push ?_
      refine HExt.tr ?_ (by assumption) ?_
      refine HExt.push ?_
      refine HExt.tr ?_ (by assumption) ?_
      refine HExt.push ?_
      · exact HExt.refl _ _
      · intro _ h; cases h; done
      · simp; omega
      · exact .inr (by omega)
      · simp; omega
      · exact .inr (by omega)
      · simp; omega
      · exact .inr (by omega)
      · intro _ h; cases h; done
      · exact .inr (by omega)
set_option maxHeartbeats 4000000 in
set_option maxRecDepth 100000 in
set_option linter.unusedSimpArgs false in
theorem g_rlread0 (H : Hp) (p : Option Addr) (n c : Nat) (L : List UInt8) (hb : BS H (.slice p n c) L) (hn : n ≤ 35184372088832) (ho : openL L = none) : GCalls Tryd.prog 7 [.slice p n c] [] H fun v H' => v = .tuple #[labV [] 0 0, .int .i64 4] ∧ HExt [] H H' := by
  have hO := fun H p n c hb hn => g_ropen H p n c L hb hn
  rw [ho] at hO
  simp only [Option.getD_none, Option.isSome_none] at hO
  refine GCalls.body tab_is Tryd.func7 rfl Tryd.results7 Tryd.ntmps7 (by simp) ?_ ?_
  · first | (intro _ h; cases h; done) | (simp; done) | (simp; omega) | (intro i hi; simp at hi; rcases hi with rfl | rfl <;> omega) | (intro i hi; simp at hi; rcases hi with rfl | rfl | rfl <;> omega)
  focus
    refine GWP.seq ?_
    refine GWP.region ?_
    focus
      refine GOps.w1 rfl rfl rfl rfl (gop_alloc' (id := ?_) ?_ tab_is rfl rfl ?_) ?_
      rotate_left 1
      · rfl
      · decide
    refine GOps.r rfl rfl rfl rfl (grd_assign rfl rfl) ?_
    refine GOps.nil ?_
    refine GWP.seq ?_
    refine GWP.region ?_
    refine GOps.r rfl rfl rfl rfl (grd_move rfl rfl) ?_
    refine GOps.w rfl rfl rfl rfl (gop_call rfl Tryd.call20 rfl ?_ (hO _ _ _ _ ?_ ?_)) ?_
    · intro _ h; cases h; done
    focus
      refine BS.ext (by assumption) ?_
      refine HExt.push ?_
      · exact HExt.refl _ _
    · omega
    rintro _ Hxe5 ⟨⟨pe1, ne2, ce3, rfl, be4⟩, xe5⟩
    have xe5l := HExt.len xe5; try simp at xe5l
    have be4n := BS.len be4; try simp at be4n; try subst be4n
    refine GOps.r rfl rfl rfl rfl (grd_move rfl rfl) ?_
    focus
      refine GOps.r rfl rfl rfl rfl (grd_extract (v := ?_) rfl rfl ?_) ?_
      rotate_left 1
      · simp only [List.getElem?_toArray, List.getElem?_cons_zero, List.getElem?_cons_succ]; rfl
    focus
      refine GOps.r rfl rfl rfl rfl (grd_extract (v := ?_) rfl rfl ?_) ?_
      rotate_left 1
      · simp only [List.getElem?_toArray, List.getElem?_cons_zero, List.getElem?_cons_succ]; rfl
    refine GOps.r rfl rfl rfl rfl (grd_assign rfl rfl) ?_
    refine GOps.r rfl rfl rfl rfl (grd_assign rfl rfl) ?_
    refine GOps.nil ?_
    refine GWP.seq ?_
    refine GWP.seq ?_
    refine GWP.region ?_
    refine GOps.r rfl rfl rfl rfl (grd_move rfl rfl) ?_
    refine GOps.r rfl rfl rfl rfl (grd_not rfl rfl) ?_
    refine GOps.nil ?_
    refine GWP.cond_t rfl ?_ ?_
    · simp; done
    refine GWP.seq ?_
    refine GWP.region ?_
    focus
      refine GOps.r rfl rfl rfl rfl (grd_build (cs := ?_) tab_is rfl rfl rfl ?_ rfl ?_) ?_
      rotate_left 1
      · decide
      · simp [gfill, gsets, Value.cells]; rfl
    focus
      refine GOps.s rfl rfl rfl (gop_storeC (b := ?_) (cs := ?_) tab_is rfl rfl ?_ rfl rfl ?_ ?_ ?_ ?_ ?_ ?_) ?_
      rotate_left 2
      · rfl
      · rfl
      refine (HExt.eq (by assumption) _ ?_ ?_).trans ?_
      · simp; done
      · intro h; cases h; done
      · exact Hp.at_push_eq
      · rfl
      · decide
      · exact .inr (by simp)
      · simp [splice, Value.cells]; rfl
    refine GOps.r rfl rfl rfl rfl (grd_assign rfl rfl) ?_
    refine GOps.nil ?_
    refine GWP.ret ?_
    focus
      refine ⟨_, (.two (gres_cellNK (b := ?_) (cs := ?_) rfl rfl rfl ?_ ?_ ?_) (.one rfl)), ?_⟩
      rotate_left 2
      refine Hp.at_put_eq ?_
      · omega
      · decide
      · simp [Value.cells]; rfl
    refine ⟨?_, ?_⟩
    · rfl
    refine HExt.put ?_ ?_
    refine HExt.tr ?_ (by assumption) ?_
    refine HExt.push ?_
    · exact HExt.refl _ _
    · intro _ h; cases h; done
    · exact .inr (by omega)
set_option maxHeartbeats 4000000 in
set_option maxRecDepth 100000 in
set_option linter.unusedSimpArgs false in
theorem g_rlread1 (H : Hp) (p : Option Addr) (n c : Nat) (L : List UInt8) (hb : BS H (.slice p n c) L) (hn : n ≤ 35184372088832) (ho : openL L = some []) : GCalls Tryd.prog 7 [.slice p n c] [] H fun v H' => v = .tuple #[labV [] 0 0, .int .i64 3] ∧ HExt [] H H' := by
  have hO := fun H p n c hb hn => g_ropen H p n c L hb hn
  rw [ho] at hO
  simp only [Option.getD_some, Option.isSome_some] at hO
  refine GCalls.body tab_is Tryd.func7 rfl Tryd.results7 Tryd.ntmps7 (by simp) ?_ ?_
  · first | (intro _ h; cases h; done) | (simp; done) | (simp; omega) | (intro i hi; simp at hi; rcases hi with rfl | rfl <;> omega) | (intro i hi; simp at hi; rcases hi with rfl | rfl | rfl <;> omega)
  focus
    refine GWP.seq ?_
    refine GWP.region ?_
    focus
      refine GOps.w1 rfl rfl rfl rfl (gop_alloc' (id := ?_) ?_ tab_is rfl rfl ?_) ?_
      rotate_left 1
      · rfl
      · decide
    refine GOps.r rfl rfl rfl rfl (grd_assign rfl rfl) ?_
    refine GOps.nil ?_
    refine GWP.seq ?_
    refine GWP.region ?_
    refine GOps.r rfl rfl rfl rfl (grd_move rfl rfl) ?_
    refine GOps.w rfl rfl rfl rfl (gop_call rfl Tryd.call20 rfl ?_ (hO _ _ _ _ ?_ ?_)) ?_
    · intro _ h; cases h; done
    focus
      refine BS.ext (by assumption) ?_
      refine HExt.push ?_
      · exact HExt.refl _ _
    · omega
    rintro _ Hxf5 ⟨⟨pf1, nf2, cf3, rfl, bf4⟩, xf5⟩
    have xf5l := HExt.len xf5; try simp at xf5l
    have bf4n := BS.len bf4; try simp at bf4n; try subst bf4n
    refine GOps.r rfl rfl rfl rfl (grd_move rfl rfl) ?_
    focus
      refine GOps.r rfl rfl rfl rfl (grd_extract (v := ?_) rfl rfl ?_) ?_
      rotate_left 1
      · simp only [List.getElem?_toArray, List.getElem?_cons_zero, List.getElem?_cons_succ]; rfl
    focus
      refine GOps.r rfl rfl rfl rfl (grd_extract (v := ?_) rfl rfl ?_) ?_
      rotate_left 1
      · simp only [List.getElem?_toArray, List.getElem?_cons_zero, List.getElem?_cons_succ]; rfl
    refine GOps.r rfl rfl rfl rfl (grd_assign rfl rfl) ?_
    refine GOps.r rfl rfl rfl rfl (grd_assign rfl rfl) ?_
    refine GOps.nil ?_
    refine GWP.seq ?_
    refine GWP.seq ?_
    refine GWP.region ?_
    refine GOps.r rfl rfl rfl rfl (grd_move rfl rfl) ?_
    refine GOps.r rfl rfl rfl rfl (grd_not rfl rfl) ?_
    refine GOps.nil ?_
    refine GWP.cond_f rfl ?_ ?_
    · simp; done
    refine GWP.skip ?_
    refine GWP.seq ?_
    refine GWP.seq ?_
    refine GWP.region ?_
    refine GOps.r rfl rfl rfl rfl (grd_move rfl rfl) ?_
    refine GOps.r rfl rfl rfl rfl (grd_len tab_is rfl rfl rfl rfl rfl) ?_
    refine GOps.r rfl rfl rfl rfl (grd_eql rfl rfl rfl) ?_
    refine GOps.r rfl rfl rfl rfl (grd_move rfl rfl) ?_
    refine GOps.no rfl ?_ rfl rfl ?_
    · simp; done
    refine GOps.no rfl ?_ rfl rfl ?_
    · simp; done
    refine GOps.no rfl ?_ rfl rfl ?_
    · simp; done
    refine GOps.no rfl ?_ rfl rfl ?_
    · simp; done
    refine GOps.r rfl rfl rfl rfl (grd_pick_t rfl rfl ?_ rfl) ?_
    · exact decide_eq_true (by omega)
    refine GOps.nil ?_
    refine GWP.cond_t rfl ?_ ?_
    · with_reducible rfl
    refine GWP.seq ?_
    refine GWP.region ?_
    focus
      refine GOps.r rfl rfl rfl rfl (grd_build (cs := ?_) tab_is rfl rfl rfl ?_ rfl ?_) ?_
      rotate_left 1
      · decide
      · simp [gfill, gsets, Value.cells]; rfl
    focus
      refine GOps.s rfl rfl rfl (gop_storeC (b := ?_) (cs := ?_) tab_is rfl rfl ?_ rfl rfl ?_ ?_ ?_ ?_ ?_ ?_) ?_
      rotate_left 2
      · rfl
      · rfl
      refine (HExt.eq (by assumption) _ ?_ ?_).trans ?_
      · simp; done
      · intro h; cases h; done
      · exact Hp.at_push_eq
      · rfl
      · decide
      · exact .inr (by simp)
      · simp [splice, Value.cells]; rfl
    refine GOps.r rfl rfl rfl rfl (grd_assign rfl rfl) ?_
    refine GOps.nil ?_
    refine GWP.ret ?_
    focus
      refine ⟨_, (.two (gres_cellNK (b := ?_) (cs := ?_) rfl rfl rfl ?_ ?_ ?_) (.one rfl)), ?_⟩
      rotate_left 2
      refine Hp.at_put_eq ?_
      · omega
      · decide
      · simp [Value.cells]; rfl
    refine ⟨?_, ?_⟩
    · rfl
    refine HExt.put ?_ ?_
    refine HExt.tr ?_ (by assumption) ?_
    refine HExt.push ?_
    · exact HExt.refl _ _
    · intro _ h; cases h; done
    · exact .inr (by omega)
set_option maxHeartbeats 4000000 in
set_option maxRecDepth 100000 in
set_option linter.unusedSimpArgs false in
theorem g_rlread2 (H : Hp) (p : Option Addr) (n c : Nat) (L M : List UInt8) (k : UInt8) (hb : BS H (.slice p n c) L) (hn : n ≤ 35184372088832) (ho : openL L = some (k :: M)) (hk : k.toNat ≠ 76) : GCalls Tryd.prog 7 [.slice p n c] [] H fun v H' => v = .tuple #[labV [] 0 0, .int .i64 3] ∧ HExt [] H H' := by
  have hO := fun H p n c hb hn => g_ropen H p n c L hb hn
  rw [ho] at hO
  simp only [Option.getD_some, Option.isSome_some] at hO
  refine GCalls.body tab_is Tryd.func7 rfl Tryd.results7 Tryd.ntmps7 (by simp) ?_ ?_
  · first | (intro _ h; cases h; done) | (simp; done) | (simp; omega) | (intro i hi; simp at hi; rcases hi with rfl | rfl <;> omega) | (intro i hi; simp at hi; rcases hi with rfl | rfl | rfl <;> omega)
  focus
    refine GWP.seq ?_
    refine GWP.region ?_
    focus
      refine GOps.w1 rfl rfl rfl rfl (gop_alloc' (id := ?_) ?_ tab_is rfl rfl ?_) ?_
      rotate_left 1
      · rfl
      · decide
    refine GOps.r rfl rfl rfl rfl (grd_assign rfl rfl) ?_
    refine GOps.nil ?_
    refine GWP.seq ?_
    refine GWP.region ?_
    refine GOps.r rfl rfl rfl rfl (grd_move rfl rfl) ?_
    refine GOps.w rfl rfl rfl rfl (gop_call rfl Tryd.call20 rfl ?_ (hO _ _ _ _ ?_ ?_)) ?_
    · intro _ h; cases h; done
    focus
      refine BS.ext (by assumption) ?_
      refine HExt.push ?_
      · exact HExt.refl _ _
    · omega
    rintro _ Hxg5 ⟨⟨pg1, ng2, cg3, rfl, bg4⟩, xg5⟩
    have xg5l := HExt.len xg5; try simp at xg5l
    have bg4n := BS.len bg4; try simp at bg4n; try subst bg4n
    refine GOps.r rfl rfl rfl rfl (grd_move rfl rfl) ?_
    focus
      refine GOps.r rfl rfl rfl rfl (grd_extract (v := ?_) rfl rfl ?_) ?_
      rotate_left 1
      · simp only [List.getElem?_toArray, List.getElem?_cons_zero, List.getElem?_cons_succ]; rfl
    focus
      refine GOps.r rfl rfl rfl rfl (grd_extract (v := ?_) rfl rfl ?_) ?_
      rotate_left 1
      · simp only [List.getElem?_toArray, List.getElem?_cons_zero, List.getElem?_cons_succ]; rfl
    refine GOps.r rfl rfl rfl rfl (grd_assign rfl rfl) ?_
    refine GOps.r rfl rfl rfl rfl (grd_assign rfl rfl) ?_
    refine GOps.nil ?_
    refine GWP.seq ?_
    refine GWP.seq ?_
    refine GWP.region ?_
    refine GOps.r rfl rfl rfl rfl (grd_move rfl rfl) ?_
    refine GOps.r rfl rfl rfl rfl (grd_not rfl rfl) ?_
    refine GOps.nil ?_
    refine GWP.cond_f rfl ?_ ?_
    · simp; done
    refine GWP.skip ?_
    refine GWP.seq ?_
    refine GWP.seq ?_
    refine GWP.region ?_
    refine GOps.r rfl rfl rfl rfl (grd_move rfl rfl) ?_
    refine GOps.r rfl rfl rfl rfl (grd_len tab_is rfl rfl rfl rfl rfl) ?_
    refine GOps.r rfl rfl rfl rfl (grd_eql rfl rfl rfl) ?_
    refine GOps.r rfl rfl rfl rfl (grd_move rfl rfl) ?_
    refine GOps.take rfl rfl ?_ ?_
    · simp; omega
    refine GOps.r rfl rfl rfl rfl (grd_move rfl rfl) ?_
    refine GOps.take rfl rfl ?_ ?_
    · simp; omega
    focus
      refine GOps.r rfl rfl rfl rfl (grd_indexBS (q := ?_) (L := ?_) tab_is rfl rfl rfl rfl rfl ?_ ?_ ?_) ?_
      rotate_left 2
      · assumption
      · rfl
      · exact Nat.le_of_ble_eq_true rfl
    refine GOps.take rfl rfl ?_ ?_
    · simp; omega
    focus
      refine GOps.re rfl rfl rfl rfl (grd_loadBSK (n := ?_) (c := ?_) (L := ?_) (u := ?_) tab_is rfl rfl rfl rfl ?_ ?_ ?_) ?_
      rotate_left 4
      · assumption
      · exact Nat.le_of_ble_eq_true rfl
      · simp only [List.getD_cons_zero]; rfl
    refine GOps.take rfl rfl ?_ ?_
    · simp; omega
    refine GOps.r rfl rfl rfl rfl (grd_neq rfl rfl rfl) ?_
    refine GOps.r rfl rfl rfl rfl (grd_pick_f rfl rfl ?_ rfl) ?_
    · exact decide_eq_false (by omega)
    refine GOps.nil ?_
    refine GWP.cond_t rfl ?_ ?_
    · exact decide_eq_true (by omega)
    refine GWP.seq ?_
    refine GWP.region ?_
    focus
      refine GOps.r rfl rfl rfl rfl (grd_build (cs := ?_) tab_is rfl rfl rfl ?_ rfl ?_) ?_
      rotate_left 1
      · decide
      · simp [gfill, gsets, Value.cells]; rfl
    focus
      refine GOps.s rfl rfl rfl (gop_storeC (b := ?_) (cs := ?_) tab_is rfl rfl ?_ rfl rfl ?_ ?_ ?_ ?_ ?_ ?_) ?_
      rotate_left 2
      · rfl
      · rfl
      refine (HExt.eq (by assumption) _ ?_ ?_).trans ?_
      · simp; done
      · intro h; cases h; done
      · exact Hp.at_push_eq
      · rfl
      · decide
      · exact .inr (by simp)
      · simp [splice, Value.cells]; rfl
    refine GOps.r rfl rfl rfl rfl (grd_assign rfl rfl) ?_
    refine GOps.nil ?_
    refine GWP.ret ?_
    focus
      refine ⟨_, (.two (gres_cellNK (b := ?_) (cs := ?_) rfl rfl rfl ?_ ?_ ?_) (.one rfl)), ?_⟩
      rotate_left 2
      refine Hp.at_put_eq ?_
      · omega
      · decide
      · simp [Value.cells]; rfl
    refine ⟨?_, ?_⟩
    · rfl
    refine HExt.put ?_ ?_
    refine HExt.tr ?_ (by assumption) ?_
    refine HExt.push ?_
    · exact HExt.refl _ _
    · intro _ h; cases h; done
    · exact .inr (by omega)
end Go.Proofs.YtjoblmdfbddkeaaDoor

/- A label's bytes: the program's and the document's. -/
namespace Go.Proofs.YtjoblmdfbddkeaaDoor
open Go.RowKit

section
variable {P : Program} {C : Ctx} {T : Tab} {o : Oper} {env : Env} {H : Hp} {x : Operand} {t : TypeId} {i : TyI}
theorem gop_bytesL {e by_ src dst id : Nat} {zr : List Value} {L : List UInt8} {i2 i3 : TyI} (hid : H.length = id) (hT : T.ok P) (ho : o.op = .convert src dst x) (ht : T src = some i) (hd : i.d = .str) (ht2 : T dst = some i2) (hd2 : i2.d = .slice e 1 by_ zr) (hte : T e = some i3) (hde : i3.d = .int .u8) (hx : geval env x = some (.string ⟨L.toArray⟩)) (hsz : L.length ≤ maxLen) :
    GOp P C o env H (fun u H' => u = .slice (some ⟨id, 0, none⟩) L.length capU ∧ H' = H.push ⟨e, 1, vb L, true⟩) := by
  subst hid
  exact gop_bytes (s := ⟨L.toArray⟩) hT ho ht hd ht2 hd2 hte hde hx hsz
end
set_option maxHeartbeats 4000000 in
set_option maxRecDepth 100000 in
set_option linter.unusedSimpArgs false in
/-- A text's bytes. -/
theorem g_rtext (H : Hp) (p : Option Addr) (n c : Nat) (L : List UInt8) (hb : BS H (.slice p n c) L) (hn : n ≤ 1000000) (h0 : 0 < n) : GCalls Tryd.prog 27 [.slice p n c] [] H fun v H' => (∃ p' c', v = .slice p' (textL L).length c' ∧ BS H' (.slice p' (textL L).length c') (textL L)) ∧ HExt [] H H' := by
  have hl := hb.len
  subst hl
  have hel := enc_le L.length (by omega)
  have hep := enc_pos L.length
  unfold textL
  have hN := fun H mi hm => g_refnum L.length (by omega) H mi hm
  unfold numP at hN
  by_cases h128 : L.length < 128
  · rw [if_pos h128] at hN
    have h1 : (enc L.length).length = 1 := by rw [enc_lt h128]; rfl
    refine GCalls.body tab_is Tryd.func27 rfl Tryd.results27 Tryd.ntmps27 (by simp) ?_ ?_
    · first | (intro _ h; cases h; done) | (simp; done) | (simp; omega) | (intro i hi; simp at hi; rcases hi with rfl | rfl <;> omega) | (intro i hi; simp at hi; rcases hi with rfl | rfl | rfl <;> omega)
    focus
      refine GWP.seq ?_
      refine GWP.region ?_
      refine GOps.r rfl rfl rfl rfl (grd_assign rfl rfl) ?_
      refine GOps.nil ?_
      refine GWP.seq ?_
      refine GWP.region ?_
      refine GOps.r rfl rfl rfl rfl (grd_move rfl rfl) ?_
      refine GOps.r rfl rfl rfl rfl (grd_len tab_is rfl rfl rfl rfl rfl) ?_
      refine GOps.r rfl rfl rfl rfl (grd_conv_in tab_is rfl rfl rfl rfl rfl ?_) ?_
      · refine wrap_u64_in ?_; omega
      refine GOps.w rfl rfl rfl rfl (gop_call rfl Tryd.call28 rfl ?_ (hN _ _ ?_)) ?_
      · intro _ h; cases h; done
      · omega
      rintro _ Hxa4 ⟨⟨ida1, rfl, la2, ha3⟩, xa4⟩
      have xa4l := HExt.len xa4; try simp at xa4l
      have ha3q := Hp.at_lt ha3
      refine GOps.r rfl rfl rfl rfl (grd_move rfl rfl) ?_
      focus
        refine GOps.w1 rfl rfl rfl rfl (gop_fullB (id := ?_) (L := ?_) (M := ?_) (K := ?_) ?_ tab_is rfl rfl rfl rfl ?_ ?_ ?_ (gsrc_bs rfl rfl rfl ?_) ?_ ?_ ?_ ?_) ?_
        rotate_left 4
        · rfl
        focus
          refine bs_row (b := ?_) ?_ ?_ ?_ ?_
          rotate_left 1
          · assumption
          · rfl
          · rfl
          · rfl
        · decide
        · omega
        focus
          refine BS.ext (by assumption) ?_
          · assumption
        · exact BS.len (by assumption)
        · rfl
        · omega
        · omega
      refine GOps.r rfl rfl rfl rfl (grd_assign rfl rfl) ?_
      refine GOps.nil ?_
      refine GWP.ret ?_
      refine ⟨_, .one rfl, ?_⟩
      refine ⟨?_, ?_⟩
      · exact ⟨_, _, congrArg (fun z => Value.slice (some ⟨_, 0, none⟩) z capU) List.length_append.symm, bs_row (Hp.at_push_id (by simp)) rfl rfl rfl⟩
      refine HExt.push ?_
      · assumption
  · rw [if_neg h128] at hN
    refine GCalls.body tab_is Tryd.func27 rfl Tryd.results27 Tryd.ntmps27 (by simp) ?_ ?_
    · first | (intro _ h; cases h; done) | (simp; done) | (simp; omega) | (intro i hi; simp at hi; rcases hi with rfl | rfl <;> omega) | (intro i hi; simp at hi; rcases hi with rfl | rfl | rfl <;> omega)
    focus
      refine GWP.seq ?_
      refine GWP.region ?_
      refine GOps.r rfl rfl rfl rfl (grd_assign rfl rfl) ?_
      refine GOps.nil ?_
      refine GWP.seq ?_
      refine GWP.region ?_
      refine GOps.r rfl rfl rfl rfl (grd_move rfl rfl) ?_
      refine GOps.r rfl rfl rfl rfl (grd_len tab_is rfl rfl rfl rfl rfl) ?_
      refine GOps.r rfl rfl rfl rfl (grd_conv_in tab_is rfl rfl rfl rfl rfl ?_) ?_
      · refine wrap_u64_in ?_; omega
      refine GOps.w rfl rfl rfl rfl (gop_call rfl Tryd.call28 rfl ?_ (hN _ _ ?_)) ?_
      · intro _ h; cases h; done
      · omega
      rintro _ Hxb4 ⟨⟨idb1, rfl, lb2, hb3⟩, xb4⟩
      have xb4l := HExt.len xb4; try simp at xb4l
      have hb3q := Hp.at_lt hb3
      refine GOps.r rfl rfl rfl rfl (grd_move rfl rfl) ?_
      focus
        refine GOps.w1 rfl rfl rfl rfl (gop_ownB (id := ?_) (b := ?_) (L := ?_) (M := ?_) (K := ?_) ?_ tab_is rfl rfl rfl rfl ?_ ?_ ?_ ?_ ?_ ?_ ?_ (gsrc_bs rfl rfl rfl ?_) ?_ ?_ ?_ ?_) ?_
        rotate_left 5
        · rfl
        · assumption
        · rfl
        · rfl
        · rfl
        · rfl
        · omega
        · exact .inr (by omega)
        focus
          refine BS.ext (by assumption) ?_
          · assumption
        · exact BS.len (by assumption)
        · rfl
        · omega
        · omega
      refine GOps.r rfl rfl rfl rfl (grd_assign rfl rfl) ?_
      refine GOps.nil ?_
      refine GWP.ret ?_
      refine ⟨_, .one rfl, ?_⟩
      refine ⟨?_, ?_⟩
      · exact ⟨_, _, congrArg (fun z => Value.slice (some ⟨_, 0, none⟩) z capU) List.length_append.symm, bs_row (Hp.at_push_id (by simp)) rfl rfl rfl⟩
      refine HExt.push ?_
      refine HExt.kill ?_ ?_
      · assumption
      · exact .inr (by omega)
set_option maxHeartbeats 4000000 in
set_option maxRecDepth 100000 in
set_option linter.unusedSimpArgs false in
/-- varint.Bytes of one text, behind others. -/
theorem g_tbytesK (H : Hp) (q : Option Addr) (m cq : Nat) (B : List UInt8) (hB : BS H (.slice q m cq) B) (hm : m ≤ 1000) (j cm : Nat) (p : Option Addr) (n c : Nat) (L : List UInt8) (t : TypeId) (rw : Bool) (hj : H.at j = some ⟨t, 1, [.slice p n c], rw⟩) (hb : BS H (.slice p n c) L) (hn : n ≤ 1000000) (h0 : 0 < n) :
    GCalls Tryd.prog 23 [.slice q m cq, .slice (some ⟨j, 0, none⟩) 1 cm] [] H fun v H' => (∃ p' c', v = .slice p' (B ++ textL L).length c' ∧ BS H' (.slice p' (B ++ textL L).length c') (B ++ textL L)) ∧ HExt [] H H' := by
  have hl := hb.len
  subst hl
  have hBl := hB.len
  have hjl := Hp.at_lt hj
  have hel := enc_le L.length (by omega)
  have hep := enc_pos L.length
  have he : encs [L.length] = enc L.length := by rw [encs_cons, encs_nil, List.append_nil]
  have hs : (B ++ encs [L.length]).length ≤ 2000 := by rw [he, List.length_append]; omega
  have hs2 : (B ++ encs [L.length]).length ≤ 70368744177664 := by omega
  have hs3 : 0 < (B ++ encs [L.length]).length := by rw [he, List.length_append]; omega
  have hc : [Value.int .u64 ((L.length : Nat) : Int)] = [L.length].map (fun x : Nat => Value.int .u64 (x : Int)) := rfl
  have lt1 : ∀ x ∈ [L.length], x < 18446744073709551616 := fun x hx => by
    simp only [List.mem_cons, List.not_mem_nil, or_false] at hx
    omega
  have hT : (B ++ textL L) = (B ++ encs [L.length]) ++ L := by rw [he, textL, List.append_assoc]
  rw [hT]
  refine GCalls.body tab_is Tryd.func23 rfl Tryd.results23 Tryd.ntmps23 (by simp) ?_ ?_
  · first | (intro _ h; cases h; done) | (simp; done) | (simp; omega) | (intro i hi; simp at hi; rcases hi with rfl | rfl <;> omega) | (intro i hi; simp at hi; rcases hi with rfl | rfl | rfl <;> omega)
  focus
    refine GWP.seq ?_
    refine GWP.region ?_
    refine GOps.r rfl rfl rfl rfl (grd_assign rfl rfl) ?_
    refine GOps.nil ?_
    refine GWP.seq ?_
    refine GWP.seq ?_
    refine GWP.region ?_
    refine GOps.r rfl rfl rfl rfl (grd_move rfl rfl) ?_
    refine GOps.r rfl rfl rfl rfl (grd_len tab_is rfl rfl rfl rfl rfl) ?_
    refine GOps.r rfl rfl rfl rfl (grd_move rfl rfl) ?_
    refine GOps.nil ?_
    refine GWP.block ?_
    refine GWP.loopN 3 ?_
    refine GRounds.step ?_
    refine GWP.seq ?_
    refine GWP.region ?_
    refine GOps.r rfl rfl rfl rfl (grd_lss rfl rfl rfl) ?_
    refine GOps.nil ?_
    refine GWP.seq ?_
    refine GWP.cond_t rfl ?_ ?_
    · exact decide_eq_true (by omega)
    refine GWP.skip ?_
    refine GWP.seq ?_
    refine GWP.block ?_
    refine GWP.seq ?_
    refine GWP.region ?_
    refine GOps.r rfl rfl rfl rfl (grd_indexAddr1 tab_is rfl rfl rfl rfl rfl ?_) ?_
    · simp; done
    focus
      refine GOps.r rfl rfl rfl rfl (grd_load1 (b := ?_) (v := ?_) tab_is rfl rfl rfl rfl ?_ ?_) ?_
      rotate_left 2
      · assumption
      · rfl
    refine GOps.r rfl rfl rfl rfl (grd_assign rfl rfl) ?_
    refine GOps.nil ?_
    refine GWP.region ?_
    refine GOps.r rfl rfl rfl rfl (grd_move rfl rfl) ?_
    refine GOps.r rfl rfl rfl rfl (grd_move rfl rfl) ?_
    refine GOps.r rfl rfl rfl rfl (grd_len tab_is rfl rfl rfl rfl rfl) ?_
    refine GOps.r rfl rfl rfl rfl (grd_conv_in tab_is rfl rfl rfl rfl rfl ?_) ?_
    · refine wrap_u64_in ?_; omega
    focus
      refine GOps.w1 rfl rfl rfl rfl (gop_lit (id := ?_) (cs := ?_) ?_ tab_is rfl rfl rfl ?_ ?_ rfl ?_ ?_) ?_
      rotate_left 2
      · rfl
      · decide
      · decide
      · simp [gfill, gsets, Value.cells]; rfl
      · rfl
    focus
      refine GOps.w rfl rfl rfl rfl (gop_call rfl Tryd.call25 rfl ?_ (g_put _ _ _ _ ?_ ?_ _ _ [L.length] ?_ ?_ ?_ ?_ ?_ lt1 ?_ ?_ ?_)) ?_
      · intro _ h; cases h; done
      rotate_left 1
      focus
        refine BS.ext (by assumption) ?_
        refine HExt.push ?_
        · exact HExt.refl _ _
      rotate_left 3
      · exact Hp.at_push_eq
      · exact hc
      · exact hs2
      · simp; done
      · simp; done
    rintro _ Hxg4 ⟨⟨idg1, rfl, lg2, hg3⟩, xg4⟩
    simp at lg2
    have xg4l := HExt.len xg4; try simp at xg4l
    have hg3q := Hp.at_lt hg3
    refine GOps.r rfl rfl rfl rfl (grd_move rfl rfl) ?_
    focus
      refine GOps.w1 rfl rfl rfl rfl (gop_ownB (id := ?_) (b := ?_) (L := ?_) (M := ?_) (K := ?_) ?_ tab_is rfl rfl rfl rfl ?_ ?_ ?_ ?_ ?_ ?_ ?_ (gsrc_bs rfl rfl rfl ?_) ?_ ?_ ?_ ?_) ?_
      rotate_left 5
      · rfl
      · assumption
      · rfl
      · rfl
      · rfl
      · rfl
      · omega
      · exact .inr (by simp; omega)
      focus
        refine BS.ext (by assumption) ?_
        refine HExt.tr ?_ (by assumption) ?_
        refine HExt.push ?_
        · exact HExt.refl _ _
        · intro _ h; cases h; done
      · exact BS.len (by assumption)
      · rfl
      · omega
      · omega
    refine GOps.r rfl rfl rfl rfl (grd_assign rfl rfl) ?_
    refine GOps.nil ?_
    refine GWP.region ?_
    refine GOps.r rfl rfl rfl rfl (grd_add64 rfl rfl rfl ?_) ?_
    · omega
    refine GOps.r rfl rfl rfl rfl (grd_move rfl rfl) ?_
    refine GOps.nil ?_
    refine GRounds.step ?_
    refine GWP.seq ?_
    refine GWP.region ?_
    refine GOps.r rfl rfl rfl rfl (grd_lss rfl rfl rfl) ?_
    refine GOps.nil ?_
    refine GWP.seq ?_
    refine GWP.cond_f rfl ?_ ?_
    · exact decide_eq_false (by omega)
    refine GWP.exit ?_
    refine GWP.seq ?_
    refine GWP.region ?_
    refine GOps.r rfl rfl rfl rfl (grd_move rfl rfl) ?_
    refine GOps.r rfl rfl rfl rfl (grd_assign rfl rfl) ?_
    refine GOps.nil ?_
    refine GWP.ret ?_
    refine ⟨_, .one rfl, ?_⟩
    refine ⟨?_, ?_⟩
    rotate_left 1
    refine HExt.push ?_
    refine HExt.kill ?_ ?_
    refine HExt.tr ?_ (by assumption) ?_
    refine HExt.push ?_
    · exact HExt.refl _ _
    · intro _ h; cases h; done
    · exact .inr (by omega)
  refine ⟨_, _, congrArg (fun z => Value.slice (some ⟨_, 0, none⟩) z capU) (show _ = ((B ++ encs [L.length]) ++ L).length by simp only [List.length_append]), bs_row (Hp.at_push_id (by simp)) rfl rfl rfl⟩
end Go.Proofs.YtjoblmdfbddkeaaDoor

/- A label's block: the program's and the document's. -/
namespace Go.Proofs.YtjoblmdfbddkeaaDoor
open Go.RowKit

theorem fin_seal {H : Hp} {p : Option Addr} {m c : Nat} {X : List UInt8} (s : BS H (.slice p m c) (sealL X)) : ∃ p' c', Value.slice p m c = .slice p' (X.length + 4) c' ∧ BS H (.slice p' (X.length + 4) c') (sealL X) := by
  have := s.len
  rw [sealL_length] at this
  subst this
  exact ⟨_, _, rfl, s⟩
set_option maxHeartbeats 4000000 in
set_option maxRecDepth 100000 in
set_option linter.unusedSimpArgs false in
theorem g_lbytes (H : Hp) (S : List UInt8) (g n : Int) (hr : poolO S ∧ 1 ≤ g ∧ g ≤ 1073741824 ∧ 0 ≤ n ∧ n ≤ 1073741824) :
    GCalls Tryd.prog 9 [labV S g n] [] H fun v H' => (∃ p c, v = .tuple #[.slice p ((labB S g n).length + 4) c, .int .i64 0] ∧ BS H' (.slice p ((labB S g n).length + 4) c) (sealL (labB S g n))) ∧ HExt [] H H' := by
  have hS : 0 < S.length ∧ S.length ≤ 8 := ⟨hr.1.1, hr.1.2.1⟩
  have hR := fun H => g_lright H S (by omega) g n
  rw [decide_eq_true hr] at hR
  unfold labV
  have hk0 : (76 : Int) = ((76 : UInt8).toNat : Int) := rfl
  have hlt : ∀ x ∈ [w64 g, w64 n], x < 18446744073709551616 := fun x hx => by
    simp only [List.mem_cons, List.not_mem_nil, or_false] at hx
    rcases hx with rfl | rfl <;> exact w64_lt _
  have w3 := w64_of (show 0 ≤ g by omega) (by omega)
  have w4 := w64_of hr.2.2.2.1 (by omega)
  have hc : [Value.int .u64 g, Value.int .u64 n] = [w64 g, w64 n].map (fun x : Nat => Value.int .u64 (x : Int)) := by simp only [List.map_cons, List.map_nil, w3, w4]
  have hbl := labB_len S g n hS.2
  unfold labB at hbl ⊢
  have hs : (([76] ++ textL S) ++ encs [w64 g, w64 n]).length ≤ 70368744177664 := by omega
  have hBl : ([76] ++ textL S).length ≤ 39 := by simp only [List.length_append] at hbl ⊢; omega
  refine GCalls.body tab_is Tryd.func9 rfl Tryd.results9 Tryd.ntmps9 (by simp) ?_ ?_
  · first | (intro _ h; cases h; done) | (simp; done) | (simp; omega) | (intro i hi; simp at hi; rcases hi with rfl | rfl <;> omega) | (intro i hi; simp at hi; rcases hi with rfl | rfl | rfl <;> omega)
  focus
    refine GWP.seq ?_
    refine GWP.region ?_
    focus
      refine GOps.w1 rfl rfl rfl rfl (gop_box' (id := ?_) ?_ rfl rfl rfl) ?_
      rotate_left 1
      · rfl
    refine GOps.r rfl rfl rfl rfl (grd_assign rfl rfl) ?_
    refine GOps.r rfl rfl rfl rfl (grd_assign rfl rfl) ?_
    refine GOps.nil ?_
    refine GWP.seq ?_
    refine GWP.seq ?_
    refine GWP.region ?_
    focus
      refine GOps.r rfl rfl rfl rfl (grd_loadNK (b := ?_) (cs := ?_) tab_is rfl rfl rfl rfl ?_ ?_ ?_) ?_
      rotate_left 2
      · exact Hp.at_push_eq
      · exact Nat.le_of_ble_eq_true rfl
      · simp [Value.cells]; rfl
    refine GOps.w rfl rfl rfl rfl (gop_call rfl Tryd.call11 rfl ?_ (hR _)) ?_
    · intro _ h; cases h; done
    rintro _ Hxa1 ⟨rfl, xa1⟩
    have xa1l := HExt.len xa1; try simp at xa1l
    refine GOps.r rfl rfl rfl rfl (grd_not rfl rfl) ?_
    refine GOps.nil ?_
    refine GWP.cond_f rfl ?_ ?_
    · simp; done
    refine GWP.skip ?_
    refine GWP.seq ?_
    refine GWP.region ?_
    focus
      refine GOps.w1 rfl rfl rfl rfl (gop_lit (id := ?_) (cs := ?_) ?_ tab_is rfl rfl rfl ?_ ?_ rfl ?_ ?_) ?_
      rotate_left 2
      · rfl
      · decide
      · decide
      · simp [gfill, gsets, Value.cells]; rfl
      · rfl
    refine GOps.r rfl rfl rfl rfl (grd_fieldAddr tab_is rfl rfl rfl rfl rfl) ?_
    focus
      refine GOps.r rfl rfl rfl rfl (grd_load1 (b := ?_) (v := ?_) tab_is rfl rfl rfl rfl ?_ ?_) ?_
      rotate_left 2
      refine (Hp.at_push_lt ?_).trans ?_
      · omega
      refine (HExt.eq (by assumption) _ ?_ ?_).trans ?_
      · simp; done
      · intro h; cases h; done
      · exact Hp.at_push_eq
      · rfl
    focus
      refine GOps.w1 rfl rfl rfl rfl (gop_bytesL (id := ?_) ?_ tab_is rfl rfl rfl rfl rfl rfl rfl rfl ?_) ?_
      rotate_left 1
      · simp; rfl
      · unfold maxLen; omega
    focus
      refine GOps.w1 rfl rfl rfl rfl (gop_lit (id := ?_) (cs := ?_) ?_ tab_is rfl rfl rfl ?_ ?_ rfl ?_ ?_) ?_
      rotate_left 2
      · simp; rfl
      · decide
      · decide
      · simp [gfill, gsets, Value.cells]; rfl
      · rfl
    focus
      refine GOps.w rfl rfl rfl rfl (gop_call rfl Tryd.call23 rfl ?_ (g_tbytesK _ _ _ _ [76] ?_ ?_ _ _ ?_ ?_ ?_ S ?_ ?_ ?_ ?_ ?_ ?_)) ?_
      · intro _ h; cases h; done
      focus
        refine bs_pushed ?_
        refine bs_pushed ?_
        refine bs_row (b := ?_) ?_ ?_ ?_ ?_
        rotate_left 1
        · exact Hp.at_push_eq
        · rfl
        · rfl
        · rfl
      · omega
      rotate_left 5
      refine Hp.at_push_id ?_
      · simp; done
      focus
        refine bs_pushed ?_
        refine bs_row (b := ?_) ?_ ?_ ?_ ?_
        rotate_left 1
        refine Hp.at_push_id ?_
        · simp; done
        · rfl
        · rfl
        · rfl
      · omega
      · omega
    rintro _ Hxa5 ⟨⟨pa2, ca3, rfl, ba4⟩, xa5⟩
    have xa5l := HExt.len xa5; try simp at xa5l
    refine GOps.r rfl rfl rfl rfl (grd_assign rfl rfl) ?_
    refine GOps.nil ?_
    refine GWP.seq ?_
    refine GWP.region ?_
    refine GOps.r rfl rfl rfl rfl (grd_move rfl rfl) ?_
    refine GOps.r rfl rfl rfl rfl (grd_fieldAddr tab_is rfl rfl rfl rfl rfl) ?_
    focus
      refine GOps.r rfl rfl rfl rfl (grd_load1 (b := ?_) (v := ?_) tab_is rfl rfl rfl rfl ?_ ?_) ?_
      rotate_left 2
      refine (HExt.eq (by assumption) _ ?_ ?_).trans ?_
      · simp; omega
      · intro h; cases h; done
      refine (Hp.at_push_lt ?_).trans ?_
      · simp; omega
      refine (Hp.at_push_lt ?_).trans ?_
      · simp; omega
      refine (Hp.at_push_lt ?_).trans ?_
      · omega
      refine (HExt.eq (by assumption) _ ?_ ?_).trans ?_
      · simp; done
      · intro h; cases h; done
      · exact Hp.at_push_eq
      · rfl
    refine GOps.r rfl rfl rfl rfl (grd_conv_in tab_is rfl rfl rfl rfl rfl ?_) ?_
    · refine wrap_u64_in ?_; omega
    refine GOps.r rfl rfl rfl rfl (grd_fieldAddr tab_is rfl rfl rfl rfl rfl) ?_
    focus
      refine GOps.r rfl rfl rfl rfl (grd_load1 (b := ?_) (v := ?_) tab_is rfl rfl rfl rfl ?_ ?_) ?_
      rotate_left 2
      refine (HExt.eq (by assumption) _ ?_ ?_).trans ?_
      · simp; omega
      · intro h; cases h; done
      refine (Hp.at_push_lt ?_).trans ?_
      · simp; omega
      refine (Hp.at_push_lt ?_).trans ?_
      · simp; omega
      refine (Hp.at_push_lt ?_).trans ?_
      · omega
      refine (HExt.eq (by assumption) _ ?_ ?_).trans ?_
      · simp; done
      · intro h; cases h; done
      · exact Hp.at_push_eq
      · rfl
    refine GOps.r rfl rfl rfl rfl (grd_conv_in tab_is rfl rfl rfl rfl rfl ?_) ?_
    · refine wrap_u64_in ?_; omega
    focus
      refine GOps.w1 rfl rfl rfl rfl (gop_lit (id := ?_) (cs := ?_) ?_ tab_is rfl rfl rfl ?_ ?_ rfl ?_ ?_) ?_
      rotate_left 2
      · rfl
      · decide
      · decide
      · simp [gfill, gsets, Value.cells]; rfl
      · rfl
    focus
      refine GOps.w rfl rfl rfl rfl (gop_call rfl Tryd.call25 rfl ?_ (g_put _ _ _ _ ?_ ?_ _ _ [w64 g, w64 n] ?_ ?_ ?_ ?_ ?_ hlt ?_ ?_ ?_)) ?_
      · intro _ h; cases h; done
      rotate_left 1
      focus
        refine BS.ext (by assumption) ?_
        refine HExt.push ?_
        · exact HExt.refl _ _
      rotate_left 3
      · exact Hp.at_push_eq
      · exact hc
      · exact hs
      · simp; done
      · simp; done
    rintro _ Hxa9 ⟨⟨ida6, rfl, la7, ha8⟩, xa9⟩
    simp at la7
    have xa9l := HExt.len xa9; try simp at xa9l
    focus
      refine GOps.w rfl rfl rfl rfl (gop_call rfl Tryd.call24 rfl ?_ (g_seal _ _ _ _ ?_ ?_ ?_)) ?_
      · intro _ h; cases h; done
      rotate_left 1
      focus
        refine bs_row (b := ?_) ?_ ?_ ?_ ?_
        rotate_left 1
        · assumption
        · rfl
        · rfl
        · rfl
      · omega
    rintro _ Hxa13 ⟨pa10, ca11, rfl, sa12, xa13⟩
    have xa13l := HExt.len xa13; try simp at xa13l
    refine GOps.r rfl rfl rfl rfl (grd_assign rfl rfl) ?_
    refine GOps.r rfl rfl rfl rfl (grd_assign rfl rfl) ?_
    refine GOps.nil ?_
    refine GWP.ret ?_
    refine ⟨_, .two (.one rfl) (.one rfl), ?_⟩
    refine ⟨?_, ?_⟩
    focus
      refine ⟨_, _, rfl, ?_⟩
      · assumption
    refine HExt.tr ?_ (by assumption) ?_
    refine HExt.tr ?_ (by assumption) ?_
    refine HExt.push ?_
    refine HExt.tr ?_ (by assumption) ?_
    refine HExt.push ?_
    refine HExt.push ?_
    refine HExt.push ?_
    refine HExt.tr ?_ (by assumption) ?_
    refine HExt.push ?_
    · exact HExt.refl _ _
    · intro _ h; cases h; done
    · intro _ h; cases h; done
    · intro _ h; cases h; done
    · intro _ h; cases h; done
set_option maxHeartbeats 4000000 in
set_option maxRecDepth 100000 in
set_option linter.unusedSimpArgs false in
theorem g_lbytes0 (H : Hp) (S : List UInt8) (hS : S.length ≤ 1000000) (g n : Int) (hr : ¬ (poolO S ∧ 1 ≤ g ∧ g ≤ 1073741824 ∧ 0 ≤ n ∧ n ≤ 1073741824)) :
    GCalls Tryd.prog 9 [labV S g n] [] H fun v H' => v = .tuple #[.slice none 0 0, .int .i64 1] ∧ HExt [] H H' := by
  have hR := fun H => g_lright H S hS g n
  rw [decide_eq_false hr] at hR
  unfold labV
  refine GCalls.body tab_is Tryd.func9 rfl Tryd.results9 Tryd.ntmps9 (by simp) ?_ ?_
  · first | (intro _ h; cases h; done) | (simp; done) | (simp; omega) | (intro i hi; simp at hi; rcases hi with rfl | rfl <;> omega) | (intro i hi; simp at hi; rcases hi with rfl | rfl | rfl <;> omega)
  focus
    refine GWP.seq ?_
    refine GWP.region ?_
    focus
      refine GOps.w1 rfl rfl rfl rfl (gop_box' (id := ?_) ?_ rfl rfl rfl) ?_
      rotate_left 1
      · rfl
    refine GOps.r rfl rfl rfl rfl (grd_assign rfl rfl) ?_
    refine GOps.r rfl rfl rfl rfl (grd_assign rfl rfl) ?_
    refine GOps.nil ?_
    refine GWP.seq ?_
    refine GWP.seq ?_
    refine GWP.region ?_
    focus
      refine GOps.r rfl rfl rfl rfl (grd_loadNK (b := ?_) (cs := ?_) tab_is rfl rfl rfl rfl ?_ ?_ ?_) ?_
      rotate_left 2
      · exact Hp.at_push_eq
      · exact Nat.le_of_ble_eq_true rfl
      · simp [Value.cells]; rfl
    refine GOps.w rfl rfl rfl rfl (gop_call rfl Tryd.call11 rfl ?_ (hR _)) ?_
    · intro _ h; cases h; done
    rintro _ Hxb1 ⟨rfl, xb1⟩
    have xb1l := HExt.len xb1; try simp at xb1l
    refine GOps.r rfl rfl rfl rfl (grd_not rfl rfl) ?_
    refine GOps.nil ?_
    refine GWP.cond_t rfl ?_ ?_
    · simp; done
    refine GWP.seq ?_
    refine GWP.region ?_
    refine GOps.r rfl rfl rfl rfl (grd_assign rfl rfl) ?_
    refine GOps.r rfl rfl rfl rfl (grd_assign rfl rfl) ?_
    refine GOps.nil ?_
    refine GWP.ret ?_
    refine ⟨_, .two (.one rfl) (.one rfl), ?_⟩
    refine ⟨?_, ?_⟩
    · rfl
    refine HExt.tr ?_ (by assumption) ?_
    refine HExt.push ?_
    · exact HExt.refl _ _
    · intro _ h; cases h; done
set_option maxHeartbeats 4000000 in
set_option maxRecDepth 100000 in
set_option linter.unusedSimpArgs false in
theorem g_rlbytes (H : Hp) (S : List UInt8) (g n : Int) (hS : 0 < S.length ∧ S.length ≤ 8) :
    GCalls Tryd.prog 14 [labV S g n] [] H fun v H' => (∃ p c, v = .slice p ((labB S g n).length + 4) c ∧ BS H' (.slice p ((labB S g n).length + 4) c) (sealL (labB S g n))) ∧ HExt [] H H' := by
  unfold labV
  have hk0 : (76 : Int) = ((76 : UInt8).toNat : Int) := rfl
  have hN : ∀ z H mi, mi = IntKind.u64.wrap z → GCalls Tryd.prog 28 [.int .u64 mi] [] H fun v H' => (∃ p c, v = .slice p (enc (w64 z)).length c ∧ BS H' (.slice p (enc (w64 z)).length c) (enc (w64 z))) ∧ HExt [] H H' := fun z H mi h => (g_refnum (w64 z) (w64_lt _) H mi (by rw [h, wrap_w64])).mono fun v H' h => h.bs
  have a := fun z => enc_le (w64 z) (w64_lt z)
  have b := fun z => enc_pos (w64 z)
  have a1 := a g
  have a2 := a n
  have b1 := b g
  have b2 := b n
  clear a b
  have ht : (textL S).length ≤ 18 ∧ 0 < (textL S).length := by
    have := enc_le S.length (by omega)
    have := enc_pos S.length
    unfold textL
    rw [List.length_append]
    omega
  have hX : labB S g n = (([76] ++ textL S) ++ enc (w64 g)) ++ enc (w64 n) := by rw [labB, encs_cons, encs_cons, encs_nil, List.append_nil, List.append_assoc, List.append_assoc, List.append_assoc]
  rw [hX]
  clear hX
  refine GCalls.body tab_is Tryd.func14 rfl Tryd.results14 Tryd.ntmps14 (by simp) ?_ ?_
  · first | (intro _ h; cases h; done) | (simp; done) | (simp; omega) | (intro i hi; simp at hi; rcases hi with rfl | rfl <;> omega) | (intro i hi; simp at hi; rcases hi with rfl | rfl | rfl <;> omega)
  focus
    refine GWP.seq ?_
    refine GWP.region ?_
    focus
      refine GOps.w1 rfl rfl rfl rfl (gop_box' (id := ?_) ?_ rfl rfl rfl) ?_
      rotate_left 1
      · rfl
    refine GOps.r rfl rfl rfl rfl (grd_assign rfl rfl) ?_
    refine GOps.nil ?_
    refine GWP.seq ?_
    refine GWP.region ?_
    focus
      refine GOps.w1 rfl rfl rfl rfl (gop_lit (id := ?_) (cs := ?_) ?_ tab_is rfl rfl rfl ?_ ?_ rfl ?_ ?_) ?_
      rotate_left 2
      · simp; rfl
      · decide
      · decide
      · simp [gfill, gsets, Value.cells]; rfl
      · rfl
    focus
      refine GOps.w1 rfl rfl rfl rfl (gop_mark (b := ?_) tab_is rfl rfl rfl rfl rfl rfl ?_ ?_ ?_) ?_
      rotate_left 1
      · decide
      refine Hp.at_push_id ?_
      · simp; done
      · exact .inr (by simp)
    refine GOps.r rfl rfl rfl rfl (grd_fieldAddr tab_is rfl rfl rfl rfl rfl) ?_
    focus
      refine GOps.r rfl rfl rfl rfl (grd_load1 (b := ?_) (v := ?_) tab_is rfl rfl rfl rfl ?_ ?_) ?_
      rotate_left 2
      refine (Hp.at_push_lt ?_).trans ?_
      · simp; done
      · exact Hp.at_push_eq
      · rfl
    focus
      refine GOps.w1 rfl rfl rfl rfl (gop_bytesL (id := ?_) ?_ tab_is rfl rfl rfl rfl rfl rfl rfl rfl ?_) ?_
      rotate_left 1
      · simp; rfl
      · unfold maxLen; omega
    refine GOps.w rfl rfl rfl rfl (gop_call rfl Tryd.call27 rfl ?_ (g_rtext _ _ _ _ S ?_ ?_ ?_)) ?_
    · intro _ h; cases h; done
    focus
      refine bs_row (b := ?_) ?_ ?_ ?_ ?_
      rotate_left 1
      refine Hp.at_push_id ?_
      · simp; done
      · rfl
      · rfl
      · rfl
    · omega
    · omega
    rintro _ Hxc4 ⟨⟨pc1, cc2, rfl, bc3⟩, xc4⟩
    have xc4l := HExt.len xc4; try simp at xc4l
    focus
      refine GOps.w1 rfl rfl rfl rfl (gop_fullB (id := ?_) (L := ?_) (M := ?_) (K := ?_) ?_ tab_is rfl rfl rfl rfl ?_ ?_ ?_ (gsrc_bs rfl rfl rfl ?_) ?_ ?_ ?_ ?_) ?_
      rotate_left 4
      · rfl
      refine bs_b1 (b := ?_) (u := ?_) ?_ ?_ ?_ ?_
      rotate_left 2
      refine (HExt.eq (by assumption) _ ?_ ?_).trans ?_
      · simp; done
      · intro h; cases h; done
      refine (Hp.at_push_lt ?_).trans ?_
      · simp; done
      refine Hp.at_push_id ?_
      · simp; done
      · rfl
      · exact congrArg (fun z : Int => [Value.int .u8 z]) (by assumption)
      · rfl
      · decide
      · omega
      · assumption
      · exact BS.len (by assumption)
      · rfl
      · omega
      · omega
    refine GOps.r rfl rfl rfl rfl (grd_assign rfl rfl) ?_
    refine GOps.nil ?_
    refine GWP.seq ?_
    refine GWP.region ?_
    refine GOps.r rfl rfl rfl rfl (grd_move rfl rfl) ?_
    refine GOps.r rfl rfl rfl rfl (grd_fieldAddr tab_is rfl rfl rfl rfl rfl) ?_
    focus
      refine GOps.r rfl rfl rfl rfl (grd_load1 (b := ?_) (v := ?_) tab_is rfl rfl rfl rfl ?_ ?_) ?_
      rotate_left 2
      refine (Hp.at_push_lt ?_).trans ?_
      · omega
      refine (HExt.eq (by assumption) _ ?_ ?_).trans ?_
      · simp; omega
      · intro h; cases h; done
      refine (Hp.at_push_lt ?_).trans ?_
      · simp; omega
      refine (Hp.at_push_lt ?_).trans ?_
      · simp; done
      · exact Hp.at_push_eq
      · rfl
    refine GOps.r rfl rfl rfl rfl (grd_conv tab_is rfl rfl rfl rfl rfl) ?_
    focus
      refine GOps.w rfl rfl rfl rfl (gop_call rfl Tryd.call28 rfl ?_ (hN ?_ _ _ ?_)) ?_
      · intro _ h; cases h; done
      rotate_left 1
      · rfl
    rintro _ Hxc8 ⟨⟨pc5, cc6, rfl, bc7⟩, xc8⟩
    have xc8l := HExt.len xc8; try simp at xc8l
    focus
      refine GOps.w1 rfl rfl rfl rfl (gop_ownB (id := ?_) (b := ?_) (L := ?_) (M := ?_) (K := ?_) ?_ tab_is rfl rfl rfl rfl ?_ ?_ ?_ ?_ ?_ ?_ ?_ (gsrc_bs rfl rfl rfl ?_) ?_ ?_ ?_ ?_) ?_
      rotate_left 5
      · rfl
      refine (HExt.eq (by assumption) _ ?_ ?_).trans ?_
      · simp; done
      · intro h; cases h; done
      · exact Hp.at_push_eq
      · rfl
      · rfl
      · rfl
      · simp; omega
      · omega
      · exact .inr (by simp; omega)
      · assumption
      · exact BS.len (by assumption)
      · rfl
      · omega
      · omega
    refine GOps.r rfl rfl rfl rfl (grd_assign rfl rfl) ?_
    refine GOps.nil ?_
    refine GWP.seq ?_
    refine GWP.region ?_
    refine GOps.r rfl rfl rfl rfl (grd_move rfl rfl) ?_
    refine GOps.r rfl rfl rfl rfl (grd_fieldAddr tab_is rfl rfl rfl rfl rfl) ?_
    focus
      refine GOps.r rfl rfl rfl rfl (grd_load1 (b := ?_) (v := ?_) tab_is rfl rfl rfl rfl ?_ ?_) ?_
      rotate_left 2
      refine (Hp.at_push_lt ?_).trans ?_
      · simp; omega
      refine (Hp.at_kill_ne ?_).trans ?_
      · omega
      refine (HExt.eq (by assumption) _ ?_ ?_).trans ?_
      · simp; omega
      · intro h; cases h; done
      refine (Hp.at_push_lt ?_).trans ?_
      · omega
      refine (HExt.eq (by assumption) _ ?_ ?_).trans ?_
      · simp; omega
      · intro h; cases h; done
      refine (Hp.at_push_lt ?_).trans ?_
      · simp; omega
      refine (Hp.at_push_lt ?_).trans ?_
      · simp; done
      · exact Hp.at_push_eq
      · rfl
    refine GOps.r rfl rfl rfl rfl (grd_conv tab_is rfl rfl rfl rfl rfl) ?_
    focus
      refine GOps.w rfl rfl rfl rfl (gop_call rfl Tryd.call28 rfl ?_ (hN ?_ _ _ ?_)) ?_
      · intro _ h; cases h; done
      rotate_left 1
      · rfl
    rintro _ Hxc12 ⟨⟨pc9, cc10, rfl, bc11⟩, xc12⟩
    have xc12l := HExt.len xc12; try simp at xc12l
    focus
      refine GOps.w1 rfl rfl rfl rfl (gop_ownB (id := ?_) (b := ?_) (L := ?_) (M := ?_) (K := ?_) ?_ tab_is rfl rfl rfl rfl ?_ ?_ ?_ ?_ ?_ ?_ ?_ (gsrc_bs rfl rfl rfl ?_) ?_ ?_ ?_ ?_) ?_
      rotate_left 5
      · rfl
      refine (HExt.eq (by assumption) _ ?_ ?_).trans ?_
      · simp; done
      · intro h; cases h; done
      refine Hp.at_push_id ?_
      · simp; done
      · rfl
      · rfl
      · rfl
      · simp; omega
      · omega
      · exact .inr (by simp; omega)
      · assumption
      · exact BS.len (by assumption)
      · rfl
      · omega
      · omega
    refine GOps.r rfl rfl rfl rfl (grd_assign rfl rfl) ?_
    refine GOps.nil ?_
    refine GWP.seq ?_
    refine GWP.region ?_
    refine GOps.r rfl rfl rfl rfl (grd_move rfl rfl) ?_
    focus
      refine GOps.w rfl rfl rfl rfl (gop_call rfl Tryd.call29 rfl ?_ (g_rseal2 _ _ _ _ ?_ ?_ ?_)) ?_
      · intro _ h; cases h; done
      rotate_left 1
      focus
        refine bs_row (b := ?_) ?_ ?_ ?_ ?_
        rotate_left 1
        refine Hp.at_push_id ?_
        · simp; done
        · rfl
        · rfl
        · simp; omega
      · omega
    rintro _ Hxc16 ⟨pc13, cc14, rfl, sc15, xc16⟩
    have xc16l := HExt.len xc16; try simp at xc16l
    refine GOps.r rfl rfl rfl rfl (grd_assign rfl rfl) ?_
    refine GOps.nil ?_
    refine GWP.ret ?_
    refine ⟨_, .one rfl, ?_⟩
    refine ⟨?_, ?_⟩
    · exact fin_seal (by assumption)
    refine HExt.tr ?_ (by assumption) ?_
    refine HExt.push ?_
    refine HExt.kill ?_ ?_
    refine HExt.tr ?_ (by assumption) ?_
    refine HExt.push ?_
    refine HExt.kill ?_ ?_
    refine HExt.tr ?_ (by assumption) ?_
    refine HExt.push ?_
    refine HExt.tr ?_ (by assumption) ?_
    refine HExt.push ?_
    refine HExt.push ?_
    refine HExt.push ?_
    · exact HExt.refl _ _
    · intro _ h; cases h; done
    · intro _ h; cases h; done
    · exact .inr (by omega)
    · intro _ h; cases h; done
    · exact .inr (by omega)
    · intro _ h; cases h; done
end Go.Proofs.YtjoblmdfbddkeaaDoor
