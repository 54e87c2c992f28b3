/- The disk of layer 5: PutAll, Erase. -/
import Derived.Test.YteglbehjokldjaaKb
namespace Go.Proofs.Yteglbehjokldjaa
open Go.RowKit
attribute [local go_sem] max_int2 min_int2

theorem Rd.frm2 {w w' : World} {B : Nat} {A : Option Addr} {xs : List Value} {F : List Nat} (h : Rd w B A xs) (k : Frm w w' F) (hF : 0 < xs.length → ∀ a, A = some a → a.block ∉ F) : Rd w' B A xs := fun j u hu => by
  have hp : 0 < xs.length := by have := (List.getElem?_eq_some_iff.1 hu).1; omega
  obtain ⟨b, off, rfl, hb, hc⟩ := h j u hu
  exact ⟨b, off, rfl, hb, (World.cell?_of_block (k.block b (World.block_lt_of_cell? w _ hc) (hF hp _ rfl))).trans hc⟩

/-- Number k of the sectors of bytes. -/
def chunk (b : List UInt8) (k : Nat) : List UInt8 := (b.drop (k * 64)).take 64
/-- PutAll from sector number k of the bytes on, r of them being left. -/
def putAll (b : List UInt8) (i : Nat) : Nat → Nat → PowS → List UInt8 → Int × PowS × List UInt8
  | 0, _, p, bs => (0, p, bs)
  | r + 1, k, p, bs => if (p.gone 64).2 = 0 then putAll b i r (k + 1) (p.wrote 64) (putB p bs (i + k) (chunk b k)) else ((p.gone 64).2, p.wrote 64, putB p bs (i + k) (chunk b k))

theorem dputall_no (w : World) (g pg gs n : Nat) (p : PowS) (bs : List UInt8) (h : Dk w g pg gs n p bs) (i : Int) (hiw : -9223372036854775808 ≤ i ∧ i ≤ 9223372036854775807) (A : Option Addr) (m c : Nat) (hm : m ≤ 35184372088832) (hi : i < 0 ∨ (n : Int) < i ∨ (n : Int) - i < (((m + 63) / 64 : Nat) : Int)) :
    Calls Try.prog 23 #[.pointer (some ⟨g, 0, none⟩), .int .i64 i, .slice A m c] w fun e w' => e = .returned (.int .i64 1) ∧ w = w' := by
  have hL := Lib.hid (dlen_any w g pg gs n p bs h)
  have hn2 := h.n2
  have hq : ((m : Int) + 64 - 1) / 64 = (((m + 63) / 64 : Nat) : Int) := by omega
  generalize (m + 63) / 64 = N at *
  by_cases h1 : i < 0
  · clear hi h
    go_enter Try.func23, Try.ntmps23
    go_wp2
    go_ret
    exact ⟨rfl, rfl⟩
  by_cases h2 : (n : Int) < i
  · clear hi h
    go_enter Try.func23, Try.ntmps23
    go_wp2_with (go_at_call 17; refine (hL.out).mono ?_; rintro e w1 ⟨rfl, rfl⟩)
    go_ret
    exact ⟨rfl, rfl⟩
  have h3 : (n : Int) - i < (N : Int) := by omega
  clear hi h
  go_enter Try.func23, Try.ntmps23
  go_wp2_with (go_at_call 17; refine (hL.out).mono ?_; rintro e w1 ⟨rfl, rfl⟩)
  go_ret
  exact ⟨rfl, rfl⟩

set_option maxHeartbeats 4000000 in
set_option maxRecDepth 100000 in
theorem dputall_ok (w : World) (g pg gs n : Nat) (p : PowS) (bs : List UInt8) (h : Dk w g pg gs n p bs) (i : Nat) (A : Option Addr) (m c : Nat) (b : List UInt8) (hl : b.length = m) (hmc : m ≤ c) (hcm : c ≤ maxLen) (hm : m ≤ 35184372088832) (hi : i ≤ n) (hfit : i + (m + 63) / 64 ≤ n)
    (hr : Rd w w.heap.size A (vb b)) (hd : 0 < m → ∀ a, A = some a → a.block ∉ [pg, gs]) :
    Calls Try.prog 23 #[.pointer (some ⟨g, 0, none⟩), .int .i64 (i : Int), .slice A m c] w fun e w' =>
      e = .returned (.int .i64 (putAll b i ((m + 63) / 64) 0 p bs).1) ∧ Dk w' g pg gs n (putAll b i ((m + 63) / 64) 0 p bs).2.1 (putAll b i ((m + 63) / 64) 0 p bs).2.2 ∧ Frm w w' [pg, gs] := by
  unfold maxLen at hcm
  have hL := Lib.hid (dlen_any w g pg gs n p bs h)
  have hn2 := h.n2
  have hq : ((m : Int) + 64 - 1) / 64 = (((m + 63) / 64 : Nat) : Int) := by omega
  have hNm : ∀ k, k < (m + 63) / 64 → k * 64 < m := by omega
  obtain ⟨N, hN⟩ : ∃ N, N = (m + 63) / 64 := ⟨_, rfl⟩
  rw [← hN] at hfit hq hNm ⊢
  have h1 : ¬ (n : Int) < (i : Int) := by omega
  have h2 : ¬ (n : Int) - (i : Int) < (N : Int) := by omega
  have d1 : decide (n < i) = false := decide_eq_false (by omega)
  obtain ⟨R, hR⟩ : ∃ R, R = putAll b i N 0 p bs := ⟨_, rfl⟩
  rw [← hR]
  have HNm := Lib.hid hNm
  have Hl := Lib.hid hl
  have HR := Lib.hid hR
  have H := Lib.hid h
  have Hd := Lib.hid hd
  clear hR hl hN hNm h hd
  go_enter Try.func23, Try.ntmps23
  go_wp2_with (go_at_call 17; refine (hL.out).mono ?_; rintro e w1 ⟨rfl, rfl⟩)
  go_loopw [32] (fun kv wr => ∃ (k : Nat) (p' : PowS) (bs' : List UInt8), k ≤ N ∧ kv = .int .i64 (k : Int) ∧ Dk wr g pg gs n p' bs' ∧ Hid (R = putAll b i (N - k) k p' bs') ∧ Frm w wr [pg, gs]) (fun kv _ => N - (intOf kv).toNat)
  case atStart => exact ⟨0, p, bs, Nat.zero_le _, rfl, H.out, HR, Frm.refl _ _⟩
  case round =>
    obtain ⟨k, p', bs', hk, rfl, hD, HK, hF⟩ := hrel
    by_cases hlt : k < N
    · have hkm := HNm.out k hlt
      have hch : chunk b k = (b.drop (k * 64)).take (min ((k + 1) * 64) m - k * 64) := by
        unfold chunk
        by_cases h64 : (k + 1) * 64 ≤ m
        · rw [Nat.min_eq_left h64]
          congr 1
          omega
        · rw [Nat.min_eq_right (by omega), List.take_of_length_le (by rw [List.length_drop, Hl.out]; omega), List.take_of_length_le (by rw [List.length_drop, Hl.out]; omega)]
      have hml : min ((k + 1) * 64) m - k * 64 ≤ 64 := by omega
      have hcl : (chunk b k).length = min ((k + 1) * 64) m - k * 64 := by rw [hch, List.length_take, List.length_drop, Hl.out]; omega
      have hrr : Rd wr wr.heap.size (Option.map (fun x => x.add (k * 64)) A) (vb (chunk b k)) := by
        unfold chunk
        rw [vb_take, vb_drop]
        exact (((hr.frm2 hF (fun h0 => Hd.out (by rw [vb_length, Hl.out] at h0; exact h0))).mono hF.size).drop (k * 64)).take 64
      have hlo : (k : Int) * 64 ≤ min (((k : Int) + 1) * 64) (m : Int) := by omega
      have hhc : min (((k : Int) + 1) * 64) (m : Int) ≤ (c : Int) := by omega
      have hlo0 : (0 : Int) ≤ (k : Int) * 64 := by omega
      have hnext : putAll b i (N - k) k p' bs' = if (p'.gone 64).2 = 0 then putAll b i (N - (k + 1)) (k + 1) (p'.wrote 64) (putB p' bs' (i + k) (chunk b k)) else ((p'.gone 64).2, p'.wrote 64, putB p' bs' (i + k) (chunk b k)) := by
        rw [show N - k = (N - (k + 1)) + 1 by omega]
        rfl
      have HK2 := Lib.hid (HK.out.trans hnext)
      have Hcl := Lib.hid hcl
      have hik : (i : Int) + (k : Int) = ((i + k : Nat) : Int) := by omega
      have Hik := Lib.hid hik
      have hmn : (min (((k : Int) + 1) * 64) (m : Int)).toNat = min ((k + 1) * 64) m := by omega
      have Hmn := Lib.hid hmn
      have HD := Lib.hid hD
      clear hnext hcl hch HK hik hD hmn
      go_wp2_with fail
      rw [Hik.out, Hmn.out]
      refine (dput_ok wr g pg gs n p' bs' HD.out (i + k) (by omega) _ _ _ (chunk b k) Hcl.out hml hrr).mono ?_
      rintro e w2 ⟨rfl, hD2, hF2⟩
      have hFF := hF.trans hF2
      by_cases he : (p'.gone 64).2 = 0
      · have hR := HK2.out
        rw [if_pos he] at hR
        have HR2 := Lib.hid hR
        rw [he]
        clear hR HK2 he
        go_wp2_with fail
        go_roundw
        case rel => exact ⟨k + 1, _, _, by omega, by go_num, hD2, HR2, hFF⟩
        case measure => simp [intOf]; omega
      · have hR := HK2.out
        rw [if_neg he] at hR
        have hne : ((p'.gone 64).2 != 0) = true := by rw [bne_iff_ne]; exact he
        generalize (p'.gone 64).2 = e2 at *
        generalize p'.wrote 64 = p2 at *
        generalize putB p' bs' (i + k) (chunk b k) = b2 at *
        clear HK2
        subst hR
        go_wp2_with fail
        go_ret
        exact ⟨rfl, hD2, hFF⟩
    · obtain rfl : k = N := by omega
      have hR := HK.out
      rw [Nat.sub_self] at hR
      have hR' : R = (0, p', bs') := hR
      clear hR HK
      subst hR'
      go_wp2
      go_ret
      exact ⟨rfl, hD, hF⟩

set_option maxHeartbeats 1000000 in
set_option maxRecDepth 100000 in
theorem derase_any (w : World) (g pg gs n : Nat) (p : PowS) (bs : List UInt8) (h : Dk w g pg gs n p bs) :
    Calls Try.prog 27 #[.pointer (some ⟨g, 0, none⟩)] w fun e w' => e = .returned (.tuple #[]) ∧ Dk w' g pg w.heap.size n p (List.replicate (64 * n) 0) ∧ Frm w w' [g] := by
  have c1 : w.cell? ⟨g, 1, none⟩ = some (.slice (some ⟨gs, 0, none⟩) n n) := h.str.cell 1
  have f1 : w.frozen? ⟨g, 1, none⟩ = false := h.str.free 1
  have hn1 := h.n1
  have hn2 := h.n2
  obtain ⟨Z, hZ⟩ : ∃ Z, Z = (vb (List.replicate (64 * n) 0)).toArray := ⟨_, rfl⟩
  have HZ := Lib.hid hZ
  have H := Lib.hid h
  have c2 : (w.alloc (.cells Z 139)).cell? ⟨g, 1, none⟩ = some (.slice (some ⟨gs, 0, none⟩) n n) := (h.str.alloc _).cell 1
  have f2 : (w.alloc (.cells Z 139)).frozen? ⟨g, 1, none⟩ = false := (h.str.alloc _).free 1
  clear hZ h
  go_enter Try.func27, Try.ntmps27
  go_wp2_with (refine wpList_make_cs w rfl _ _ _ rfl _ _ 64 64 elm_sec .i64 .i64 _ _ n n rfl rfl rfl rfl (Nat.le_refl _) (by omega) (by omega) Z (by rw [made_sec, HZ.out, Nat.mul_comm]) ?_)
  go_end0
  have hz := HZ.out
  have hb := Bk.new w 139 Z
  have hlt := H.out.str.lt
  have hgp := H.out.str.ne_ H.out.pow.1 (by decide)
  refine ⟨rfl, ⟨(H.out.str.alloc _).put 1 _, ?_, ⟨(H.out.pow.1.alloc _).far (by simpa using Ne.symm hgp) _, H.out.pow.2⟩, by rw [List.length_replicate], hn1, hn2⟩, ((Frm.refl w [g]).alloc _).put (.inl (by simp)) _⟩
  rw [← hz]
  exact hb.far (by simp; omega) _
end Go.Proofs.Yteglbehjokldjaa
