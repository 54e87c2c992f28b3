/- The model of layer 5's law: read, all. -/
import Derived.Test.YteglbehjokldjaaKd
namespace Go.Proofs.Yteglbehjokldjaa
open Go.RowKit
attribute [local go_sem] max_int2 min_int2

theorem mread_no (w : World) (gm gb n : Nat) (p : PowS) (bs : List UInt8) (h : Md w gm gb n p bs) (i sz : Int) (hi : i < 0 ∨ (n : Int) < i ∨ sz < 0 ∨ 64 * (n : Int) - 64 * i < sz) :
    Calls Try.prog 22 #[.pointer (some ⟨gm, 0, none⟩), .int .i64 i, .int .i64 sz] w fun e w' => e = .returned (.tuple #[.slice none 0 0, .int .i64 1]) ∧ w = w' := by
  have c0 : w.cell? ⟨gm, 0, none⟩ = some (.slice (some ⟨gb, 0, none⟩) (64 * n) (64 * n)) := h.str.cell 0
  have hn2 := h.n2
  have hq : (((64 * n : Nat) : Int)) / 64 = (n : Int) := by omega
  have hN : ((64 * n : Nat) : Int) = 64 * (n : Int) := by omega
  clear h
  generalize 64 * n = N at *
  by_cases h1 : i < 0
  · clear hi hN
    go_enter Try.func22, Try.ntmps22
    go_wp2
    go_ret2
    exact ⟨rfl, rfl⟩
  by_cases h2 : (n : Int) < i
  · clear hi hN
    go_enter Try.func22, Try.ntmps22
    go_wp2
    go_ret2
    exact ⟨rfl, rfl⟩
  by_cases h3 : sz < 0
  · clear hi hN
    go_enter Try.func22, Try.ntmps22
    go_wp2
    go_ret2
    exact ⟨rfl, rfl⟩
  have h4 : (N : Int) - 64 * i < sz := by omega
  clear hi hN
  go_enter Try.func22, Try.ntmps22
  go_wp2
  go_ret2
  exact ⟨rfl, rfl⟩
theorem mread_off (w : World) (gm gb n : Nat) (p : PowS) (bs : List UInt8) (h : Md w gm gb n p bs) (i sz : Nat) (hi : i ≤ n) (hs : sz ≤ 64 * n - 64 * i) (ho : p.off = true) :
    Calls Try.prog 22 #[.pointer (some ⟨gm, 0, none⟩), .int .i64 (i : Int), .int .i64 (sz : Int)] w fun e w' => e = .returned (.tuple #[.slice none 0 0, .int .i64 11]) ∧ w = w' := by
  have c0 : w.cell? ⟨gm, 0, none⟩ = some (.slice (some ⟨gb, 0, none⟩) (64 * n) (64 * n)) := h.str.cell 0
  have c1 : w.cell? ⟨gm, 1, none⟩ = some (.bool (!p.off)) := h.str.cell 1
  rw [ho] at c1
  have hn2 := h.n2
  have hq : (((64 * n : Nat) : Int)) / 64 = (n : Int) := by omega
  have h2 : ¬ (n : Int) < (i : Int) := by omega
  have h4 : ¬ ((64 * n : Nat) : Int) - 64 * (i : Int) < (sz : Int) := by omega
  clear h hi hs ho
  generalize 64 * n = N at *
  go_enter Try.func22, Try.ntmps22
  go_wp2
  go_ret2
  exact ⟨rfl, rfl⟩
/-- What read leaves. -/
def MreadE (w : World) (b : List UInt8) (e : Ending) (w' : World) : Prop :=
  ∃ A c, e = .returned (.tuple #[.slice A b.length c, .int .i64 0]) ∧ Rd w w.heap.size A (vb b) ∧ w = w'
set_option maxHeartbeats 1000000 in
theorem mread_ok (w : World) (gm gb n : Nat) (p : PowS) (bs : List UInt8) (h : Md w gm gb n p bs) (i sz : Nat) (hi : i ≤ n) (hs : sz ≤ 64 * n - 64 * i) (ho : p.off = false) :
    Calls Try.prog 22 #[.pointer (some ⟨gm, 0, none⟩), .int .i64 (i : Int), .int .i64 (sz : Int)] w (MreadE w ((bs.drop (64 * i)).take sz)) := by
  have c0 : w.cell? ⟨gm, 0, none⟩ = some (.slice (some ⟨gb, 0, none⟩) (64 * n) (64 * n)) := h.str.cell 0
  have c1 : w.cell? ⟨gm, 1, none⟩ = some (.bool (!p.off)) := h.str.cell 1
  rw [ho] at c1
  have hn2 := h.n2
  have hq : (((64 * n : Nat) : Int)) / 64 = (n : Int) := by omega
  have h2 : ¬ (n : Int) < (i : Int) := by omega
  have h4 : ¬ ((64 * n : Nat) : Int) - 64 * (i : Int) < (sz : Int) := by omega
  have hX : Rd w w.heap.size (some ⟨gb, 64 * i, none⟩) (vb ((bs.drop (64 * i)).take sz)) := by
    refine Rd.of_bk h.dat (64 * i) _ fun a u hu => ?_
    rw [List.getElem?_toArray]
    rw [vb_take, vb_drop, List.getElem?_take] at hu
    split at hu
    · rw [List.getElem?_drop] at hu
      exact hu
    · cases hu
  have hXl : ((bs.drop (64 * i)).take sz).length = sz := by rw [List.length_take, List.length_drop, h.len]; omega
  have hend : 64 * i = 64 * n → (bs.drop (64 * i)).take sz = [] := fun e => List.eq_nil_of_length_eq_zero (by rw [hXl]; omega)
  generalize (bs.drop (64 * i)).take sz = X at *
  have HX := Lib.hid hXl
  have hiN : (64 : Int) * (i : Int) + (sz : Int) ≤ ((64 * n : Nat) : Int) := by omega
  have hi0 : (0 : Int) ≤ 64 * (i : Int) := by omega
  have hi1 : (64 : Int) * (i : Int) ≤ 64 * (i : Int) + (sz : Int) := by omega
  have Hend := Lib.hid hend
  clear h hi hs ho hXl hend
  generalize 64 * n = N at *
  by_cases hcap : N = 64 * i
  · go_enter Try.func22, Try.ntmps22
    go_wp2
    go_ret2
    have hnil := Hend.out hcap.symm
    have hl := HX.out
    rw [hnil] at hl
    simp only [List.length_nil] at hl
    subst hl
    exact ⟨some ⟨gb, 0, none⟩, 0, by rw [hnil]; simp, by rw [hnil]; exact Rd.nil_ _ _ _, rfl⟩
  · go_enter Try.func22, Try.ntmps22
    go_wp2
    go_ret2
    refine ⟨some ⟨gb, 64 * i, none⟩, N - 64 * i, ?_, hX, rfl⟩
    rw [HX.out, show sz = 64 * i + sz - 64 * i by omega]
    rfl

theorem mall_no (w : World) (gm gb n : Nat) (p : PowS) (bs : List UInt8) (h : Md w gm gb n p bs) (i : Int) (A : Option Addr) (m c : Nat) (hm : m ≤ 35184372088832) (hi : i < 0 ∨ (n : Int) < i ∨ 64 * (n : Int) - 64 * i < (m : Int)) :
    Calls Try.prog 24 #[.pointer (some ⟨gm, 0, none⟩), .int .i64 i, .slice A m c] w fun e w' => e = .returned (.int .i64 1) ∧ w = w' := by
  have c0 : w.cell? ⟨gm, 0, none⟩ = some (.slice (some ⟨gb, 0, none⟩) (64 * n) (64 * n)) := h.str.cell 0
  have hn2 := h.n2
  have hq : (((64 * n : Nat) : Int)) / 64 = (n : Int) := by omega
  have hN : ((64 * n : Nat) : Int) = 64 * (n : Int) := by omega
  clear h
  generalize 64 * n = N at *
  by_cases h1 : i < 0
  · clear hi hN
    go_enter Try.func24, Try.ntmps24
    go_wp2
    go_ret
    exact ⟨rfl, rfl⟩
  by_cases h2 : (n : Int) < i
  · clear hi hN
    go_enter Try.func24, Try.ntmps24
    go_wp2
    go_ret
    exact ⟨rfl, rfl⟩
  have h4 : (N : Int) - 64 * i < (m : Int) := by omega
  clear hi hN
  go_enter Try.func24, Try.ntmps24
  go_wp2
  go_ret
  exact ⟨rfl, rfl⟩

set_option maxHeartbeats 4000000 in
set_option maxRecDepth 100000 in
theorem mall_ok (w : World) (gm gb n : Nat) (p : PowS) (bs : List UInt8) (h : Md w gm gb n p bs) (i : Nat) (A : Option Addr) (m c : Nat) (b : List UInt8) (hl : b.length = m) (hmc : m ≤ c) (hcm : c ≤ maxLen) (hm : m ≤ 35184372088832) (hi : i ≤ n) (hfit : i + (m + 63) / 64 ≤ n)
    (hr : Rd w w.heap.size A (vb b)) (hd : 0 < m → ∀ a, A = some a → a.block ∉ [gm, gb]) :
    Calls Try.prog 24 #[.pointer (some ⟨gm, 0, none⟩), .int .i64 (i : Int), .slice A m c] w fun e w' =>
      e = .returned (.int .i64 (putAll b i ((m + 63) / 64) 0 p bs).1) ∧ Md w' gm gb n (putAll b i ((m + 63) / 64) 0 p bs).2.1 (putAll b i ((m + 63) / 64) 0 p bs).2.2 ∧ Frm w w' [gm, gb] := by
  unfold maxLen at hcm
  have c0 : w.cell? ⟨gm, 0, none⟩ = some (.slice (some ⟨gb, 0, none⟩) (64 * n) (64 * n)) := h.str.cell 0
  have hn2 := h.n2
  have hq : (((64 * n : Nat) : Int)) / 64 = (n : Int) := by omega
  have hNm : ∀ k, k < (m + 63) / 64 → k * 64 < m := by omega
  have hNe : ∀ k, ¬ k < (m + 63) / 64 → m ≤ k * 64 := by omega
  have h1 : ¬ (n : Int) < (i : Int) := by omega
  have h2 : ¬ ((64 * n : Nat) : Int) - 64 * (i : Int) < (m : Int) := by omega
  have d1 : decide (n < i) = false := decide_eq_false (by omega)
  obtain ⟨N, hN⟩ : ∃ N, N = (m + 63) / 64 := ⟨_, rfl⟩
  rw [← hN] at hfit hNm hNe ⊢
  have hNle : N ≤ 65536 := by omega
  obtain ⟨R, hR⟩ : ∃ R, R = putAll b i N 0 p bs := ⟨_, rfl⟩
  rw [← hR]
  have HNm := Lib.hid hNm
  have HNe := Lib.hid hNe
  have Hl := Lib.hid hl
  have HR := Lib.hid hR
  have H := Lib.hid h
  have Hd := Lib.hid hd
  clear hR hl hN hNm hNe h hd
  generalize 64 * n = T at *
  go_enter Try.func24, Try.ntmps24
  go_wp2_with fail
  go_loopw [7] (fun av wr => ∃ (k : Nat) (p' : PowS) (bs' : List UInt8), k ≤ N ∧ av = .int .i64 ((k : Int) * 64) ∧ Md wr gm gb n p' bs' ∧ Hid (R = putAll b i (N - k) k p' bs') ∧ Frm w wr [gm, gb]) (fun av _ => N - (intOf av).toNat / 64)
  case atStart => exact ⟨0, p, bs, Nat.zero_le _, rfl, H.out, HR, Frm.refl _ _⟩
  case round =>
    obtain ⟨k, p', bs', hk, rfl, hD, HK, hF⟩ := hrel
    by_cases hlt : k < N
    · have hkm := HNm.out k hlt
      have hch : chunk b k = (b.drop (k * 64)).take (min (k * 64 + 64) m - k * 64) := by
        unfold chunk
        by_cases h64 : k * 64 + 64 ≤ m
        · rw [Nat.min_eq_left h64]
          congr 1
          omega
        · rw [Nat.min_eq_right (by omega), List.take_of_length_le (by rw [List.length_drop, Hl.out]; omega), List.take_of_length_le (by rw [List.length_drop, Hl.out]; omega)]
      have hml : min (k * 64 + 64) m - k * 64 ≤ 64 := by omega
      have hcl : (chunk b k).length = min (k * 64 + 64) m - k * 64 := by rw [hch, List.length_take, List.length_drop, Hl.out]; omega
      have hrr : Rd wr wr.heap.size (Option.map (fun x => x.add (k * 64)) A) (vb (chunk b k)) := by
        unfold chunk
        rw [vb_take, vb_drop]
        exact (((hr.frm2 hF (fun h0 => Hd.out (by rw [vb_length, Hl.out] at h0; exact h0))).mono hF.size).drop (k * 64)).take 64
      have hlt' : (k : Int) * 64 < (m : Int) := by omega
      have hlo : (k : Int) * 64 ≤ min ((k : Int) * 64 + 64) (m : Int) := by omega
      have hhc : min ((k : Int) * 64 + 64) (m : Int) ≤ (c : Int) := by omega
      have hlo0 : (0 : Int) ≤ (k : Int) * 64 := by omega
      have hdiv : ((k : Int) * 64) / 64 = (k : Int) := by omega
      have hnext : putAll b i (N - k) k p' bs' = if (p'.gone 64).2 = 0 then putAll b i (N - (k + 1)) (k + 1) (p'.wrote 64) (putB p' bs' (i + k) (chunk b k)) else ((p'.gone 64).2, p'.wrote 64, putB p' bs' (i + k) (chunk b k)) := by
        rw [show N - k = (N - (k + 1)) + 1 by omega]
        rfl
      have HK2 := Lib.hid (HK.out.trans hnext)
      have Hcl := Lib.hid hcl
      have hik : (i : Int) + (k : Int) = ((i + k : Nat) : Int) := by omega
      have Hik := Lib.hid hik
      have hmn : (min ((k : Int) * 64 + 64) (m : Int)).toNat = min (k * 64 + 64) m := by omega
      have Hmn := Lib.hid hmn
      have HD := Lib.hid hD
      clear hnext hcl hch HK hik hD hmn
      go_wp2_with fail
      rw [Hik.out, Hmn.out]
      refine (mput_ok wr gm gb n p' bs' HD.out (i + k) (by omega) _ _ _ (chunk b k) Hcl.out hml hrr).mono ?_
      rintro e w2 ⟨rfl, hD2, hF2⟩
      have hFF := hF.trans hF2
      by_cases he : (p'.gone 64).2 = 0
      · have hR := HK2.out
        rw [if_pos he] at hR
        have HR2 := Lib.hid hR
        rw [he]
        clear hR HK2 he
        go_wp2_with fail
        go_roundw
        case rel => exact ⟨k + 1, _, _, by omega, by congr 1; omega, hD2, HR2, hFF⟩
        case measure => simp [intOf]; omega
      · have hR := HK2.out
        rw [if_neg he] at hR
        have hne : ((p'.gone 64).2 != 0) = true := by rw [bne_iff_ne]; exact he
        generalize (p'.gone 64).2 = e2 at *
        generalize p'.wrote 64 = p2 at *
        generalize putB p' bs' (i + k) (chunk b k) = b2 at *
        clear HK2
        subst hR
        go_wp2_with fail
        go_ret
        exact ⟨rfl, hD2, hFF⟩
    · have hke := HNe.out k hlt
      obtain rfl : k = N := by omega
      have hR := HK.out
      rw [Nat.sub_self] at hR
      have hR' : R = (0, p', bs') := hR
      clear hR HK
      subst hR'
      have hlt' : ¬ (k : Int) * 64 < (m : Int) := by omega
      go_wp2
      go_ret
      exact ⟨rfl, hD, hF⟩
end Go.Proofs.Yteglbehjokldjaa
