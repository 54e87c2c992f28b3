/- varint.Bytes, and the document's Number and Text. -/
import Derived.Test.YtpcpkmpkpjohmaaVs
namespace Go.Proofs.Ytpcpkmpkpjohmaa
open Go.RowKit

/-- A text that lies somewhere. -/
structure Tx where
  A : Option Addr
  c : Nat
  l : List UInt8
def Tx.val (x : Tx) : Value := .slice x.A x.l.length x.c
def Tx.ok (w : World) (x : Tx) : Prop := Rd w w.heap.size x.A (vb x.l)
def vt (l : List Tx) : List Value := l.map Tx.val
theorem vt_get {l : List Tx} {i : Nat} {x : Tx} (h : l[i]? = some x) : (vt l)[i]? = some (.slice x.A x.l.length x.c) := by simp [vt, h, Tx.val]
def text (x : List UInt8) : List UInt8 := enc x.length ++ x
def texts (l : List (List UInt8)) : List UInt8 := l.flatMap text
theorem texts_nil : texts [] = [] := rfl
theorem texts_append (a b : List (List UInt8)) : texts (a ++ b) = texts a ++ texts b := by simp [texts]
theorem texts_step (b : List UInt8) (l : List (List UInt8)) (k S : Nat) (x : List UInt8) (hx : l[k]? = some x) (hs : (b ++ texts l).length ≤ S) :
    texts (l.take (k + 1)) = texts (l.take k) ++ text x ∧ (b ++ texts (l.take (k + 1))).length ≤ S := by
  obtain ⟨hk, rfl⟩ := List.getElem?_eq_some_iff.1 hx
  refine ⟨by rw [List.take_succ_eq_append_getElem hk, texts_append]; simp [texts], ?_⟩
  have h : texts l = texts (l.take (k + 1)) ++ texts (l.drop (k + 1)) := by rw [← texts_append, List.take_append_drop]
  rw [h] at hs
  simp only [List.length_append] at hs ⊢
  omega

theorem App.slice2 {w : World} {base size n : Nat} {e : TypeId} {v : Value} {xs : List Value} (h : App w base e size v n xs) (hn : n ≤ maxLen) :
    ∃ A c, v = .slice A n c ∧ n ≤ c ∧ c ≤ maxLen ∧ (A = none → n = 0) ∧ Rd w w.heap.size A xs := by
  rcases h with h | ⟨_, A, rfl, hA, hr⟩
  · have h2 := h.2
    rcases h2 with ⟨rfl, rfl⟩ | ⟨g, cap, cur, rfl, _, _, hn, hm, _⟩
    · exact ⟨none, 0, rfl, Nat.le_refl _, hn, fun _ => rfl, Rd.of_own h⟩
    · exact ⟨_, cap, rfl, hn, hm, (fun h => by cases h), Rd.of_own h⟩
  · exact ⟨A, n, rfl, Nat.le_refl _, hn, hA, hr⟩

set_option maxHeartbeats 1000000 in
set_option maxRecDepth 100000 in
theorem tbytes_any (A : Option Addr) (n c : Nat) (b : List UInt8) (L : Option Addr) (m cl : Nat) (l : List Tx) (w : World) (hb : b.length = n) (hn : n ≤ c) (hm : c ≤ maxLen) (hr : Rd w w.heap.size A (vb b)) (hA : A = none → n = 0)
    (hl : l.length = m) (hrl : Rd w w.heap.size L (vt l)) (hok : ∀ x ∈ l, x.ok w) (hsz : (b ++ texts (l.map Tx.l)).length ≤ 70368744177664) (hm2 : m ≤ 70368744177664) :
    Calls Try.prog 46 #[.slice A n c, .slice L m cl] w fun e w' => ∃ A' c', e = .returned (.slice A' (b ++ texts (l.map Tx.l)).length c') ∧ (b ++ texts (l.map Tx.l)).length ≤ c' ∧ c' ≤ maxLen ∧ (A' = none → (b ++ texts (l.map Tx.l)).length = 0) ∧
      Rd w' w'.heap.size A' (vb (b ++ texts (l.map Tx.l))) ∧ (l ≠ [] → AppB w' w.heap.size 5 (.slice A' (b ++ texts (l.map Tx.l)).length c') (b ++ texts (l.map Tx.l))) ∧ Below w.heap.size w w' := by
  have Hb := Lib.hid hb
  have Hl := Lib.hid hl
  have Hok := Lib.hid hok
  have Hsz := Lib.hid hsz
  clear hb hl hok hsz
  go_enter Try.func46, Try.ntmps46
  go_wp2_with fail
  go_loopw [0, 9] (fun v i wr => ∃ (k : Nat) (acc : List UInt8) (A' : Option Addr) (c' : Nat), k ≤ m ∧ i = .int .i64 k ∧ v = .slice A' acc.length c' ∧ Hid (acc = b ++ texts ((l.map Tx.l).take k)) ∧ Hid (acc.length ≤ c' ∧ c' ≤ maxLen) ∧ (A' = none → acc.length = 0) ∧ Rd wr wr.heap.size A' (vb acc) ∧
      (0 < k → AppB wr w.heap.size 5 (.slice A' acc.length c') acc) ∧ Below w.heap.size w wr) (fun _ i _ => m - (intOf i).toNat)
  case atStart =>
    refine ⟨0, b, A, c, Nat.zero_le _, rfl, by rw [Hb.out], ?_, ⟨by rw [Hb.out]; exact hn, hm⟩, by rw [Hb.out]; exact hA, hr, fun h => absurd h (by omega), Below.refl _ _⟩
    show b = _
    rw [List.take_zero, texts_nil, List.append_nil]
  case round =>
    obtain ⟨k, acc, A', c', hk, rfl, rfl, Hacc, Hc, hA', hr', happ, hbel⟩ := hrel
    by_cases hlt2 : k < m
    · obtain ⟨x, hx⟩ : ∃ x, l[k]? = some x := ⟨l[k]'(by have := Hl.out; omega), List.getElem?_eq_getElem _⟩
      obtain ⟨htake, hle⟩ := texts_step b (l.map Tx.l) k _ x.l (by rw [List.getElem?_map, hx]; rfl) Hsz.out
      obtain ⟨bL, oL, rfl, hbL, hcell⟩ := hrl k _ (vt_get hx)
      rw [← hbel.cell (p := ⟨bL, oL + k, none⟩) hbL] at hcell
      have hxok : Rd w w.heap.size x.A (vb x.l) := Hok.out x (List.mem_of_getElem? hx)
      rw [htake] at hle
      have hxlen : x.l.length ≤ 70368744177664 := by simp only [text, List.length_append] at hle; omega
      have hal : (acc ++ encs [x.l.length]).length + x.l.length ≤ 70368744177664 := by
        rw [Hacc.out, encs_cons, encs_nil]
        simp only [text, List.length_append, List.length_nil] at hle ⊢
        omega
      obtain ⟨xA, xc, xl⟩ := x
      simp only at hcell hxok hxlen hal htake
      have hput := put_any A' acc.length c' acc (some ⟨wr.heap.size, 0, none⟩) 1 1 [xl.length] (wr.alloc (.cells #[.int .u64 (xl.length : Int)] 24)) rfl Hc.out.1 Hc.out.2 (hr'.alloc_ _) hA' rfl (Rd.new wr #[.int .u64 (xl.length : Int)] _)
        (by intro y hy; simp at hy; omega) (by omega) (by omega)
      have hwl : IntKind.u64.wrap (xl.length : Int) = (xl.length : Int) := wrap_u64_of (by omega)
      have Hput := Lib.hid hput
      have Ht := Lib.hid htake
      have Hal := Lib.hid hal
      clear hput htake hal hle hxlen hx
      go_wp2_with fail
      refine (Hput.out).mono ?_
      rintro e w1 ⟨v1, rfl, happ1, hb1⟩
      have hbw1 : Below w.heap.size w w1 := below_tr (below_al hbel _) hb1
      have hx1 : Rd w1 w.heap.size xA (vb xl) := hxok.below hbw1
      have happ1' := happ1.mono (base' := w.heap.size) (by have := hbel.size; simp; omega)
      clear happ1
      go_wp2_with (at_builtin; refine wpList_append_bytes _ rfl (.tmp 18) (.tmp 19) _ rfl w.heap.size _ _ elm_u8 _ _ rfl happ1' _ _ xl.length xc xl rfl rfl hx1 (by have := Hal.out; omega) hbw1.size ?_; intro v2 w2 happ2 hb2 _)
      have hlen2 : (acc ++ encs [xl.length] ++ xl).length ≤ maxLen := by rw [List.length_append]; have := Hal.out; simp only [maxLen]; omega
      obtain ⟨A2, c2, rfl, q1, q2, q3, q4⟩ := App.slice2 happ2 hlen2
      go_roundw
      case rel =>
        refine ⟨k + 1, acc ++ encs [xl.length] ++ xl, A2, c2, by omega, by go_num, rfl, ?_, ⟨q1, q2⟩, q3, q4, fun _ => happ2, hbw1.trans hb2⟩
        show _ = _
        rw [Ht.out, Hacc.out, encs_cons, encs_nil]
        simp [text]
      case measure => simp [intOf]; omega
    · obtain rfl : k = m := by omega
      have e1 : (l.map Tx.l).take k = l.map Tx.l := List.take_of_length_le (by rw [List.length_map, Hl.out]; omega)
      have e2 := Hacc.out
      rw [e1] at e2
      subst e2
      go_wp2
      go_ret
      refine ⟨A', c', rfl, Hc.out.1, Hc.out.2, hA', hr', fun hne => happ ?_, hbel⟩
      rcases Nat.eq_zero_or_pos k with h0 | h0
      · exact absurd (List.eq_nil_of_length_eq_zero (by rw [Hl.out, h0])) hne
      · exact h0

theorem wrap_u8_small {x : Int} (h0 : 0 ≤ x) (h1 : x < 256) : IntKind.u8.wrap x = x := by
  rw [IntKind.wrap_u8]
  omega
set_option maxHeartbeats 1000000 in
theorem refnum_any (d : Nat) : ∀ (N : Nat) (w : World), N < 2 ^ (7 * (d + 1)) → N < 18446744073709551616 →
    Calls Try.prog 44 #[.int .u64 (N : Int)] w fun e w' => ∃ v, e = .returned v ∧ AppB w' w.heap.size 5 v (enc N) ∧ Below w.heap.size w w' := by
  induction d with
  | zero =>
    intro N w hN _
    have hlt : (N : Int) < 128 := by simp at hN; omega
    rw [enc_lt (by omega)]
    clear hN
    go_enter Try.func44, Try.ntmps44
    go_wp2_with fail
    go_ret
    refine ⟨_, rfl, AppB.clip rfl (fun h => by cases h) ?_, below_al (Below.refl _ _) _⟩
    have := Rd.new w #[.int .u8 (N : Int)] 5
    have e : vb [UInt8.ofNat N] = [.int .u8 (N : Int)] := by
      simp [vb]
      omega
    rw [e]
    exact this
  | succ d ih =>
    intro N w hN hN2
    by_cases hlt : (N : Int) < 128
    · rw [enc_lt (by omega)]
      clear hN hN2 ih
      go_enter Try.func44, Try.ntmps44
      go_wp2_with fail
      go_ret
      refine ⟨_, rfl, AppB.clip rfl (fun h => by cases h) ?_, below_al (Below.refl _ _) _⟩
      have := Rd.new w #[.int .u8 (N : Int)] 5
      have e : vb [UInt8.ofNat N] = [.int .u8 (N : Int)] := by
        simp [vb]
        omega
      rw [e]
      exact this
    · rw [enc_ge (by omega)]
      have h2 : (2 : Nat) ^ (7 * (d + 1 + 1)) = 128 * 2 ^ (7 * (d + 1)) := by rw [show 7 * (d + 1 + 1) = 7 + 7 * (d + 1) from by omega, Nat.pow_add]
      have hih := ih (N / 128) (w.alloc (.cells #[.int .u8 ((N : Int) % 128 + 128)] 5)) (by omega) (by omega)
      have hel : (enc (N / 128)).length ≤ 10 := enc_le _ (by omega)
      have hr0 := Rd.new w #[.int .u8 ((N : Int) % 128 + 128)] 5
      have e : vb [UInt8.ofNat (N % 128 + 128)] = [.int .u8 ((N : Int) % 128 + 128)] := by
        simp [vb]
        omega
      have happ0 : AppB (w.alloc (.cells #[.int .u8 ((N : Int) % 128 + 128)] 5)) w.heap.size 5 (.slice (some ⟨w.heap.size, 0, none⟩) 1 1) [UInt8.ofNat (N % 128 + 128)] := AppB.clip rfl (fun h => by cases h) (by rw [e]; exact hr0)
      have Hw := Lib.hid (wrap_u64_of (a := N / 128) (by omega))
      have Hih := Lib.hid hih
      have Hel := Lib.hid hel
      clear hN hN2 ih h2 hih hel e hr0
      go_enter Try.func44, Try.ntmps44
      go_wp2_with fail
      rw [show (N : Int) / 128 = ((N / 128 : Nat) : Int) from by omega]
      rw [Hw.out]
      refine (Hih.out).mono ?_
      rintro e w1 ⟨v1, rfl, happ1, hb1⟩
      have happ0' := happ0.below hb1
      obtain ⟨A1, c1, rfl, hc1, hr1⟩ := happ1.rd
      have hbw : Below w.heap.size w w1 := below_tr (below_al (Below.refl _ _) _) hb1
      go_wp2_with (at_builtin; refine wpList_append_bytes _ rfl (.tmp 12) (.tmp 15) _ rfl w.heap.size _ _ elm_u8 _ _ rfl happ0' _ _ _ _ _ rfl rfl hr1 (by have := Hel.out; simp only [List.length_cons, List.length_nil]; omega) hbw.size ?_; intro v2 w2 happ2 hb2 _)
      go_ret
      exact ⟨v2, rfl, happ2, hbw.trans hb2⟩

theorem reftext_any (A : Option Addr) (n c : Nat) (l : List UInt8) (w : World) (hl : l.length = n) (hn : n ≤ 70368744177664) (hr : Rd w w.heap.size A (vb l)) :
    Calls Try.prog 45 #[.slice A n c] w fun e w' => ∃ v, e = .returned v ∧ AppB w' w.heap.size 5 v (text l) ∧ Below w.heap.size w w' := by
  have hnum := refnum_any 9 n w (by omega) (by omega)
  have hel : (enc n).length ≤ 10 := enc_le _ (by omega)
  have hwl : IntKind.u64.wrap (n : Int) = (n : Int) := wrap_u64_of (by omega)
  have Hnum := Lib.hid hnum
  have Hel := Lib.hid hel
  have Hl := Lib.hid hl
  have Hn := Lib.hid hn
  clear hnum hel hl hn
  go_enter Try.func45, Try.ntmps45
  go_wp2_with fail
  refine (Hnum.out).mono ?_
  rintro e w1 ⟨v1, rfl, happ1, hb1⟩
  have hr1 := hr.below hb1
  go_wp2_with (at_builtin; refine wpList_append_bytes _ rfl (.tmp 6) (.tmp 7) _ rfl w.heap.size _ _ elm_u8 _ _ rfl happ1 _ _ _ _ l rfl Hl.out hr1 (by have := Hel.out; have := Hn.out; omega) hb1.size ?_; intro v2 w2 happ2 hb2 _)
  go_ret
  refine ⟨v2, rfl, ?_, hb1.trans hb2⟩
  unfold text
  rw [Hl.out]
  exact happ2
end Go.Proofs.Ytpcpkmpkpjohmaa
