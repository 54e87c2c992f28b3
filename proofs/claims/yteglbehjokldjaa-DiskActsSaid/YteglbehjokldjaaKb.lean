/- The disk of layer 5: Get of a sector that is there, GetAll. -/
import Derived.Test.YteglbehjokldjaaKa
namespace Go.Proofs.Yteglbehjokldjaa
open Go.RowKit
attribute [local go_sem] max_int2 min_int2

def secB (bs : List UInt8) (i : Nat) : List UInt8 := (bs.drop (64 * i)).take 64
theorem secB_length {bs : List UInt8} {n i : Nat} (h : bs.length = 64 * n) (hi : i < n) : (secB bs i).length = 64 := by
  unfold secB
  rw [List.length_take, List.length_drop, h]
  omega

set_option maxHeartbeats 4000000 in
set_option maxRecDepth 100000 in
theorem dget_ok (w : World) (g pg gs n : Nat) (p : PowS) (bs : List UInt8) (h : Dk w g pg gs n p bs) (i : Nat) (hi : i < n) (ho : p.off = false) :
    Calls Try.prog 20 #[.pointer (some ⟨g, 0, none⟩), .int .i64 (i : Int)] w (DgetE w (secB bs i)) := by
  have hL := Lib.hid (dlen_any w g pg gs n p bs h)
  have hO := pow_on w pg p h.pow
  rw [ho] at hO
  have HO := Lib.hid hO
  have c0 : w.cell? ⟨g, 0, none⟩ = some (.pointer (some ⟨pg, 0, none⟩)) := h.str.cell 0
  have c1 : w.cell? ⟨g, 1, none⟩ = some (.slice (some ⟨gs, 0, none⟩) n n) := h.str.cell 1
  have hX : w.rangeAt gs (i * 64) (vb (secB bs i)) := fun j v hv => by
    rw [h.sec.cell, List.getElem?_toArray]
    unfold secB at hv
    rw [vb_take, vb_drop, List.getElem?_take] at hv
    split at hv
    · rw [List.getElem?_drop] at hv
      rw [← hv, Nat.mul_comm]
    · cases hv
  have hXl := secB_length h.len hi
  generalize secB bs i = X at *
  have HX := Lib.hid hXl
  have hgz := h.sec.lt
  have hii : (i : Int) < (n : Int) := by omega
  clear h hO ho hXl
  go_enter Try.func20, Try.ntmps20
  go_upto_region 5 with (first | (go_at_call 17; refine (hL.out).mono ?_; rintro e w1 ⟨rfl, rfl⟩) | (go_at_call 58; refine (HO.out).mono ?_; rintro e w1 ⟨rfl, rfl⟩))
  refine wp_region_lit ?_
  iterate 6
    refine wpList_step fun K hK => ?_
    go_simp
    refine hK _ _ ?_
    clear hK K
  refine wpList_load_mid rfl _ _ rfl gs (i * 64) rfl (vb X) _ hX Try.underlying139 rfl (by rw [vb_length, HX.out]; kernel_rfl) ?_
  refine wpList_step fun K hK => ?_
  go_simp
  refine hK _ _ ?_
  clear hK K
  have hB0 : Bk (w.alloc (.cells (vb (List.replicate 64 0)).toArray 139)) w.heap.size 139 (vb (List.replicate 64 0)).toArray := Bk.new w _ _
  have hF0 := (Frm.refl w []).alloc (.cells (vb (List.replicate 64 0)).toArray 139)
  change wpList _ _ _ _ _ (w.alloc (.cells (vb (List.replicate 64 0)).toArray 139))
  have hC := setCells_whole hB0 (vb X) (by rw [vb_length, HX.out]; simp [vb])
  refine wpList_store_mid rfl _ _ _ rfl w.heap.size 0 (vb X).toArray rfl rfl ?c1 (by simp only [List.size_toArray]; rw [vb_length, HX.out]; kernel_rfl) (by simp only [List.all_toArray, List.all_eq_true]; exact vb_one X) ?_
  case c1 =>
    intro j hj
    rw [List.size_toArray, vb_length, HX.out] at hj
    rw [Nat.zero_add]
    refine ⟨?_, hB0.free j⟩
    rw [hB0.cell j, Array.getElem?_eq_getElem (by simp [vb]; omega)]
    rfl
  refine wpList_nil ?_
  change Exit.then _ _ _ _ ((w.alloc (.cells (vb (List.replicate 64 0)).toArray 139)).setCells w.heap.size 0 (vb X))
  have hF := hF0.tr hC.frm (G := [w.heap.size]) (by simp)
  have hb := hC.blk
  generalize (w.alloc (.cells (vb (List.replicate 64 0)).toArray 139)).setCells w.heap.size 0 (vb X) = W1 at *
  clear hC hB0 hF0
  go_wp2
  go_ret2
  refine ⟨some ⟨w.heap.size, 0, none⟩, rfl, ?_, hF.below (by simp) (Nat.le_refl _)⟩
  exact ⟨by rw [vb_length, HX.out], .inr ⟨w.heap.size, 64, (vb X).toArray, rfl, Nat.le_refl _, hb, Nat.le_refl _, by simp [maxLen], by rw [List.size_toArray, vb_length, HX.out], by rw [List.take_of_length_le (by show (vb X).length ≤ 64 * 1; rw [vb_length, HX.out]; omega)]⟩⟩

/-- What GetAll leaves. -/
def DallE (w : World) (b : List UInt8) (e : Ending) (w' : World) : Prop :=
  ∃ v, e = .returned (.tuple #[v, .int .i64 0]) ∧ w'.ownsRow w.heap.size 5 1 v b.length (vb b) ∧ Below w.heap.size w w'
theorem dall_no (w : World) (g pg gs n : Nat) (p : PowS) (bs : List UInt8) (h : Dk w g pg gs n p bs) (i sz : Int) (hiw : -9223372036854775808 ≤ i ∧ i ≤ 9223372036854775807) (hi : i < 0 ∨ sz < 0 ∨ (n : Int) < i ∨ ((n : Int) - i) * 64 < sz) :
    Calls Try.prog 21 #[.pointer (some ⟨g, 0, none⟩), .int .i64 i, .int .i64 sz] w fun e w' => e = .returned (.tuple #[.slice none 0 0, .int .i64 1]) ∧ w = w' := by
  have hL := Lib.hid (dlen_any w g pg gs n p bs h)
  have hn1 := h.n1
  have hn2 := h.n2
  by_cases h1 : i < 0
  · clear hi h
    go_enter Try.func21, Try.ntmps21
    go_wp2
    go_ret2
    exact ⟨rfl, rfl⟩
  by_cases h2 : sz < 0
  · clear hi h
    go_enter Try.func21, Try.ntmps21
    go_wp2
    go_ret2
    exact ⟨rfl, rfl⟩
  by_cases h3 : (n : Int) < i
  · clear hi h
    go_enter Try.func21, Try.ntmps21
    go_wp2_with (go_at_call 17; refine (hL.out).mono ?_; rintro e w1 ⟨rfl, rfl⟩)
    go_ret2
    exact ⟨rfl, rfl⟩
  have h4 : ((n : Int) - i) * 64 < sz := by omega
  clear hi h
  go_enter Try.func21, Try.ntmps21
  go_wp2_with (go_at_call 17; refine (hL.out).mono ?_; rintro e w1 ⟨rfl, rfl⟩)
  go_ret2
  exact ⟨rfl, rfl⟩
theorem dall_off (w : World) (g pg gs n : Nat) (p : PowS) (bs : List UInt8) (h : Dk w g pg gs n p bs) (i sz : Nat) (hi : i ≤ n) (hs : sz ≤ (n - i) * 64) (ho : p.off = true) :
    Calls Try.prog 21 #[.pointer (some ⟨g, 0, none⟩), .int .i64 (i : Int), .int .i64 (sz : Int)] w fun e w' => e = .returned (.tuple #[.slice none 0 0, .int .i64 11]) ∧ w = w' := by
  have hL := Lib.hid (dlen_any w g pg gs n p bs h)
  have hO := pow_on w pg p h.pow
  rw [ho] at hO
  have HO := Lib.hid hO
  have c0 : w.cell? ⟨g, 0, none⟩ = some (.pointer (some ⟨pg, 0, none⟩)) := h.str.cell 0
  have hn1 := h.n1
  have hn2 := h.n2
  have h1 : ¬ (n : Int) < (i : Int) := by omega
  have h2 : ¬ ((n : Int) - (i : Int)) * 64 < (sz : Int) := by omega
  clear h hO ho
  go_enter Try.func21, Try.ntmps21
  go_wp2_with (first | (go_at_call 17; refine (hL.out).mono ?_; rintro e w1 ⟨rfl, rfl⟩) | (go_at_call 58; refine (HO.out).mono ?_; rintro e w1 ⟨rfl, rfl⟩))
  go_ret2
  exact ⟨rfl, rfl⟩

set_option maxHeartbeats 4000000 in
set_option maxRecDepth 100000 in
theorem dall_ok (w : World) (g pg gs n : Nat) (p : PowS) (bs : List UInt8) (h : Dk w g pg gs n p bs) (i sz : Nat) (hi : i ≤ n) (hs : sz ≤ (n - i) * 64) (ho : p.off = false) :
    Calls Try.prog 21 #[.pointer (some ⟨g, 0, none⟩), .int .i64 (i : Int), .int .i64 (sz : Int)] w (DallE w ((bs.drop (64 * i)).take sz)) := by
  have hL := Lib.hid (dlen_any w g pg gs n p bs h)
  have hO := pow_on w pg p h.pow
  rw [ho] at hO
  have HO := Lib.hid hO
  have c0 : w.cell? ⟨g, 0, none⟩ = some (.pointer (some ⟨pg, 0, none⟩)) := h.str.cell 0
  have hn1 := h.n1
  have hn2 := h.n2
  have h1 : ¬ (n : Int) < (i : Int) := by omega
  have h2 : ¬ ((n : Int) - (i : Int)) * 64 < (sz : Int) := by omega
  have H := Lib.hid h
  have hTl : ((bs.drop (64 * i)).take sz).length = sz := by rw [List.length_take, List.length_drop, h.len]; omega
  have hT : ∀ (L q k : Nat), L = 64 * q → L + k ≤ sz → ((bs.drop (64 * i)).take sz).take L ++ (bs.drop ((i + q) * 64)).take k = ((bs.drop (64 * i)).take sz).take (L + k) := by
    intro L q k hq hk
    rw [List.take_take, List.take_take, Nat.min_eq_left (by omega), Nat.min_eq_left hk, List.take_add, List.drop_drop]
    congr 3
    omega
  generalize hTT : (bs.drop (64 * i)).take sz = T at *
  have HT := Lib.hid hT
  have HTl := Lib.hid hTl
  clear h hO ho hT hTl hTT
  go_enter Try.func21, Try.ntmps21
  go_wp2_with (first | (go_at_call 17; refine (hL.out).mono ?_; rintro e w1 ⟨rfl, rfl⟩) | (go_at_call 58; refine (HO.out).mono ?_; rintro e w1 ⟨rfl, rfl⟩))
  go_loopw [1, 8] (fun iv v wr => ∃ q L j : Nat, L ≤ sz ∧ Hid (j = i + q) ∧ Hid (L = 64 * q ∨ L = sz) ∧ j ≤ 2 * n + 1 ∧ iv = .int .i64 (j : Int) ∧ wr.ownsRow w.heap.size 5 1 v L (vb (T.take L)) ∧ Below w.heap.size w wr) (fun _ v _ => sz - (match v with | .slice _ L _ => L | _ => 0))
  case atStart => exact ⟨0, 0, i, Nat.zero_le _, Lib.hid rfl, Lib.hid (.inl rfl), by omega, rfl, World.ownsRow_nil _ _ _ _, Below.refl _ _⟩
  case round =>
    obtain ⟨q, L, j, hLs, Hj, HLq, hjn, rfl, hown, hbe⟩ := hrel
    have hown' := hown
    obtain ⟨Av, cv, rfl, hcv, hcm, hAn, hrd⟩ := own_shape hown' (by unfold maxLen; omega)
    clear hown' hrd hAn
    by_cases hlt : (L : Int) < (sz : Int)
    · have hLq' : L = 64 * q := by have := HLq.out; omega
      have hjq := Hj.out
      have hjlt : (j : Int) < (n : Int) := by omega
      obtain ⟨k, hk⟩ : ∃ k, k = min 64 (sz - L) := ⟨_, rfl⟩
      have hmin : min (64 : Int) ((sz : Int) - (L : Int)) = (k : Int) := by omega
      have hkp : 0 < k := by omega
      have hk64 : (k : Int) ≤ 64 := by omega
      have hkL : L + k ≤ sz := by omega
      have hnext := HT.out L q k hLq' hkL
      rw [← hjq] at hnext
      have hD := H.out.below hbe
      have cw1 : wr.cell? ⟨g, 1, none⟩ = some (.slice (some ⟨gs, 0, none⟩) n n) := hD.str.cell 1
      have hsl : Rd wr wr.heap.size (some ⟨gs, j * 64, none⟩) (vb ((bs.drop (j * 64)).take k)) := by
        refine Rd.of_bk hD.sec (j * 64) _ fun a u hu => ?_
        rw [List.getElem?_toArray]
        rw [vb_take, vb_drop, List.getElem?_take] at hu
        split at hu
        · rw [List.getElem?_drop] at hu
          exact hu
        · cases hu
      have hkl : ((bs.drop (j * 64)).take k).length = k := by rw [List.length_take, List.length_drop, hD.len]; omega
      have HN := Lib.hid hnext
      have Hkl := Lib.hid hkl
      have Hk := Lib.hid hk
      have HLq2 := Lib.hid hLq'
      clear hnext hkl hk hLq' hjq hD
      go_wp2_with (at_builtin; refine wpList_append_app _ rfl (.tmp 42) (.tmp 54) _ rfl w.heap.size _ _ 1 1 elm_u8 _ L (vb (T.take L)) rfl (.inl hown) _ _ k _ (vb ((bs.drop (j * 64)).take k)) rfl (by rw [vb_length, Hkl.out]; omega) hsl (vb_one _) (by unfold maxLen; omega) (by omega) hbe.size ?_; intro v1 w1 hA1)
      have hown1 := hA1.own (.inl hkp)
      rw [← vb_append, HN.out] at hown1
      obtain ⟨A1, c1, rfl, _⟩ := own_shape hown1 (by unfold maxLen; omega)
      have hb1 := hbe.trans hA1.below
      clear hA1
      go_roundw
      case rel => exact ⟨q + 1, L + k, j + 1, hkL, Lib.hid (by have := Hj.out; omega), Lib.hid (by have := Hk.out; have := HLq2.out; omega), by omega, by go_num, hown1, hb1⟩
      case measure => simp; omega
    · obtain rfl : L = sz := by omega
      have hTl := HTl.out
      rw [List.take_of_length_le (by rw [hTl]; exact Nat.le_refl _)] at hown
      clear hTl
      go_wp2
      go_ret2
      exact ⟨_, rfl, by rw [HTl.out]; exact hown, hbe⟩
end Go.Proofs.Yteglbehjokldjaa
