/- What the functions of package varint come to: slices.Clip, Put. -/
import Derived.Test.YtcbngjpihcemiaaSl
import Derived.Test.YtcbngjpihcemiaaVp
import Derived.WalkLawsBesides
import Derived.RegionTactic
namespace Go.Proofs.Ytcbngjpihcemiaa
open Go.RowKit

/-- Whole numbers as cells. -/
def vu (l : List Nat) : List Value := l.map fun n : Nat => .int .u64 (n : Int)
theorem vu_get {l : List Nat} {i N : Nat} (h : l[i]? = some N) : (vu l)[i]? = some (.int .u64 (N : Int)) := by simp [vu, h]

set_option maxHeartbeats 1000000 in
set_option maxRecDepth 100000 in
theorem put_any (A : Option Addr) (n c : Nat) (b : List UInt8) (L : Option Addr) (m cl : Nat) (l : List Nat) (w : World) (hb : b.length = n) (hn : n ≤ c) (hm : c ≤ maxLen) (hr : Rd w w.heap.size A (vb b)) (hA : A = none → n = 0)
    (hl : l.length = m) (hrl : Rd w w.heap.size L (vu l)) (hlt : ∀ x ∈ l, x < 18446744073709551616) (hsz : (b ++ encs l).length ≤ 70368744177664) (hm2 : m ≤ 70368744177664) :
    Calls Try.prog 105 #[.slice A n c, .slice L m cl] w fun e w' => ∃ v, e = .returned v ∧ AppB w' w.heap.size 5 v (b ++ encs l) ∧ Below w.heap.size w w' := by
  have Hb := Lib.hid hb
  have Hl := Lib.hid hl
  have Hlt := Lib.hid hlt
  have Hsz := Lib.hid hsz
  clear hb hl hlt hsz
  go_enter Try.func105, Try.ntmps105
  go_wp2_with (go_at_call 144; refine (clip_any _ _ _ _ hn hm).mono ?_; rintro e w1 ⟨rfl, rfl⟩)
  go_loopw [0, 11] (fun v i wr => ∃ k : Nat, k ≤ m ∧ i = .int .i64 k ∧ AppB wr w.heap.size 5 v (b ++ encs (l.take k)) ∧ Below w.heap.size w wr) (fun _ i _ => m - (intOf i).toNat)
  case atStart => 
    refine ⟨0, Nat.zero_le _, rfl, ?_, Below.refl _ _⟩
    rw [List.take_zero, encs_nil, List.append_nil]
    exact AppB.clip Hb.out hA hr
  case round =>
    obtain ⟨k, hk, rfl, happ, hbel⟩ := hrel
    by_cases hlt2 : k < m
    · obtain ⟨N0, hN0, hmem, htake, hle⟩ := encs_step b l k _ (by have := Hl.out; omega) Hsz.out
      obtain ⟨bL, oL, rfl, hbL, hcell⟩ := hrl k _ (vu_get hN0)
      rw [← hbel.cell (p := ⟨bL, oL + k, none⟩) hbL] at hcell
      have HN0 := Lib.hid (Hlt.out _ hmem)
      have Hle := Lib.hid hle
      clear hle
      have Ht := Lib.hid htake
      clear htake hN0
      go_wp2_with fail
      obtain ⟨wo, rfl⟩ : ∃ wo : World, wo = wr := ⟨_, rfl⟩
      go_loopw [0, 6] (fun v nv wr => ∃ (acc : List UInt8) (N : Nat), nv = .int .u64 N ∧ N ≤ N0 ∧ AppB wr w.heap.size 5 v acc ∧ Hid (acc ++ enc N = b ++ encs (l.take (k + 1))) ∧ Below w.heap.size w wr) (fun _ nv _ => (intOf nv).toNat)
      case atStart =>
        exact ⟨b ++ encs (l.take k), N0, rfl, Nat.le_refl _, happ, by rw [Ht.out, List.append_assoc]; rfl, hbel⟩
      case round =>
        obtain ⟨acc, N, rfl, hN, happ, HE, hbel⟩ := hrel
        have haccl := enc_room HE.out
        have hroom : acc.length + 1 ≤ 140737488355328 := by have := Hle.out; omega
        have Hroom := Lib.hid hroom
        clear hroom haccl
        by_cases hN2 : (N : Int) < 128
        · go_wp2_with (at_builtin; refine wpList_append_byte _ rfl (.tmp 25) (.tmp 28) _ rfl w.heap.size _ _ elm_u8 _ acc rfl happ _ rfl Hroom.out hbel.size (by omega) ?_; intro v1 w1 happ1 hbel1 _)
          go_roundw
          case rel => 
            refine ⟨k + 1, by omega, by go_num, ?_, hbel.trans hbel1⟩
            rw [← HE.out, enc_lt (by omega)]
            exact happ1
          case measure => simp [intOf]; omega
        · have hbits := bits_more N
          go_wp2_with (at_builtin; refine wpList_append_byte _ rfl (.tmp 19) (.tmp 23) _ rfl w.heap.size _ _ elm_u8 _ acc rfl happ _ rfl Hroom.out hbel.size (by omega) ?_; intro v1 w1 happ1 hbel1 _)
          clear hbits
          go_roundw
          case rel => 
            refine ⟨acc ++ [UInt8.ofNat (N % 128 + 128)], N / 128, by go_num, by omega, ?_, ?_, hbel.trans hbel1⟩
            · rw [more_byte] at happ1
              exact happ1
            · have h := HE.out
              rw [enc_ge (by omega)] at h
              show _ = _
              rw [← h, List.append_assoc]
              rfl
          case measure => simp [intOf]; omega
    · go_wp2
      go_ret
      obtain rfl : k = m := by omega
      refine ⟨_, rfl, ?_, hbel⟩
      rw [← Hl.out, List.take_length] at happ
      exact happ
end Go.Proofs.Ytcbngjpihcemiaa
