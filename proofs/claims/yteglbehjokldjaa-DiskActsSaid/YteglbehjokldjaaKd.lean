/- The model of layer 5's law: put. -/
import Derived.Test.YteglbehjokldjaaKc
import Derived.Test.YteglbehjokldjaaWz
namespace Go.Proofs.Yteglbehjokldjaa
open Go.RowKit
attribute [local go_sem] max_int2 min_int2

/-- What the model holds of a plan. -/
def plN (p : PowS) : Int := if p.plan then p.after else -1
def PowS.pos (p : PowS) : Prop := (p.plan = true → 0 ≤ p.after) ∧ p.ok
/-- The model beside a disk: its struct in gm, its bytes in gb. -/
structure Md (w : World) (gm gb n : Nat) (p : PowS) (bs : List UInt8) : Prop where
  str : Bk w gm 34 #[.slice (some ⟨gb, 0, none⟩) (64 * n) (64 * n), .bool (!p.off), .int .i64 (plN p), .int .i64 p.torn]
  dat : Bk w gb 5 (vb bs).toArray
  pos : p.pos
  len : bs.length = 64 * n
  n1 : 1 ≤ n
  n2 : n ≤ 65536
theorem Md.frm {w w' : World} {gm gb n : Nat} {p : PowS} {bs : List UInt8} {F : List Nat} (h : Md w gm gb n p bs) (k : Frm w w' F) (h1 : gm ∉ F) (h2 : gb ∉ F) : Md w' gm gb n p bs :=
  ⟨h.str.frm k h1, h.dat.frm k h2, h.pos, h.len, h.n1, h.n2⟩
theorem pos_wrote {p : PowS} (h : p.pos) (n : Int) : (p.wrote n).pos := by
  obtain ⟨pl, af, tn, off, co⟩ := p
  obtain ⟨h1, h2⟩ := h
  simp only [PowS.ok] at h1 h2
  unfold PowS.wrote PowS.pos PowS.ok
  split
  · exact ⟨h1, h2⟩
  split
  · exact ⟨h1, h2⟩
  split
  · exact ⟨h1, h2⟩
  split
  · exact ⟨fun h => by simp only at *; omega, by simp only at *; omega⟩
  · exact ⟨fun h => by simp at h, h2⟩

theorem mput_no (w : World) (gm gb n : Nat) (p : PowS) (bs : List UInt8) (h : Md w gm gb n p bs) (i : Int) (A : Option Addr) (m c : Nat) (hi : i < 0 ∨ (n : Int) ≤ i ∨ 64 < m) :
    Calls Try.prog 19 #[.pointer (some ⟨gm, 0, none⟩), .int .i64 i, .slice A m c] w fun e w' => e = .returned (.int .i64 1) ∧ w = w' := by
  have c0 : w.cell? ⟨gm, 0, none⟩ = some (.slice (some ⟨gb, 0, none⟩) (64 * n) (64 * n)) := h.str.cell 0
  have hn2 := h.n2
  have hq : (((64 * n : Nat) : Int)) / 64 = (n : Int) := by omega
  clear h
  generalize 64 * n = N at *
  by_cases h1 : i < 0
  · clear hi
    go_enter Try.func19, Try.ntmps19
    go_wp2
    go_ret
    exact ⟨rfl, rfl⟩
  by_cases h2 : (n : Int) ≤ i
  · clear hi
    go_enter Try.func19, Try.ntmps19
    go_wp2
    go_ret
    exact ⟨rfl, rfl⟩
  have h3 : (64 : Int) < (m : Int) := by omega
  clear hi
  go_enter Try.func19, Try.ntmps19
  go_wp2
  go_ret
  exact ⟨rfl, rfl⟩

theorem gone_nz {p : PowS} (h : p.pos) (ho : p.off = false) (hz : plN p ≠ 0) : p.gone 64 = (64, 0) ∧ (p.wrote 64).off = false ∧ (p.wrote 64).torn = p.torn ∧ max (plN p - 1) (-1) = plN (p.wrote 64) := by
  obtain ⟨pl, af, tn, off, co⟩ := p
  simp only at ho
  subst ho
  cases pl with
  | false => simp [PowS.gone, PowS.wrote, plN]; decide
  | true =>
    have h1 := h.1 rfl
    simp only [plN, if_true] at hz h1
    have h2 : 0 < af := by omega
    simp [PowS.gone, PowS.wrote, plN, h2]
    omega
theorem gone_z {p : PowS} (ho : p.off = false) (hz : plN p = 0) : p.gone 64 = (min (max p.torn 0) 64, 11) ∧ (p.wrote 64).off = true ∧ (p.wrote 64).torn = p.torn ∧ plN (p.wrote 64) = -1 := by
  obtain ⟨pl, af, tn, off, co⟩ := p
  simp only at ho
  subst ho
  cases pl with
  | false => simp [plN] at hz
  | true =>
    simp only [plN, if_true] at hz
    subst hz
    simp [PowS.gone, PowS.wrote, plN]
theorem splice_nil (bs : List UInt8) (o : Nat) : splice bs o [] = bs := by simp [splice]

set_option maxHeartbeats 4000000 in
set_option maxRecDepth 100000 in
theorem mput_ok (w : World) (gm gb n : Nat) (p : PowS) (bs : List UInt8) (h : Md w gm gb n p bs) (i : Nat) (hi : i < n) (A : Option Addr) (m c : Nat) (b : List UInt8) (hl : b.length = m) (hm : m ≤ 64) (hr : Rd w w.heap.size A (vb b)) :
    Calls Try.prog 19 #[.pointer (some ⟨gm, 0, none⟩), .int .i64 (i : Int), .slice A m c] w fun e w' => e = .returned (.int .i64 (p.gone 64).2) ∧ Md w' gm gb n (p.wrote 64) (putB p bs i b) ∧ Frm w w' [gm, gb] := by
  have hpw := pos_wrote h.pos 64
  have hps := h.pos
  have c0 : w.cell? ⟨gm, 0, none⟩ = some (.slice (some ⟨gb, 0, none⟩) (64 * n) (64 * n)) := h.str.cell 0
  have c1 : w.cell? ⟨gm, 1, none⟩ = some (.bool (!p.off)) := h.str.cell 1
  have c2 : w.cell? ⟨gm, 2, none⟩ = some (.int .i64 (plN p)) := h.str.cell 2
  have c3 : w.cell? ⟨gm, 3, none⟩ = some (.int .i64 p.torn) := h.str.cell 3
  have f1 : w.frozen? ⟨gm, 1, none⟩ = false := h.str.free 1
  have f2 : w.frozen? ⟨gm, 2, none⟩ = false := h.str.free 2
  have hn2 := h.n2
  have hq : (((64 * n : Nat) : Int)) / 64 = (n : Int) := by omega
  have hii : ¬ (n : Int) ≤ (i : Int) := by omega
  have hgl := gone_le p 64 (by omega)
  obtain ⟨k, hk⟩ : ∃ k : Nat, (p.gone 64).1 = (k : Int) := ⟨(p.gone 64).1.toNat, by omega⟩
  have hput : putB p bs i b = splice bs (64 * i) ((pad64 b).take k) := by
    unfold putB
    rw [hk]
    rfl
  have hk64 : k ≤ 64 := by omega
  have H := Lib.hid h
  have Hl := Lib.hid hl
  have Hps := Lib.hid hps
  have Hpw := Lib.hid hpw
  have Hput := Lib.hid hput
  clear hput hpw hps h hl hgl
  by_cases ho : p.off = true
  · have e1 : p.gone 64 = (0, 11) := by unfold PowS.gone; rw [if_neg (by omega), if_pos ho]
    have e2 : p.wrote 64 = p := by unfold PowS.wrote; rw [if_neg (by omega), if_pos ho]
    rw [ho] at c1
    have hk0 : k = 0 := by rw [e1] at hk; omega
    have hbb := Hput.out
    rw [hk0, List.take_zero, splice_nil] at hbb
    rw [e1, e2, hbb]
    clear e1 e2 hbb Hput hk hk0 Hpw
    generalize 64 * n = N at c0 hq
    go_enter Try.func19, Try.ntmps19
    go_wp2
    go_ret
    exact ⟨rfl, H.out, Frm.refl _ _⟩
  · have ho' : p.off = false := by simpa using ho
    rw [ho'] at c1
    rw [Hput.out]
    have hel := elm_u8
    have hpb : ((plN p : Int) ≤ 9223372036854775807 ∧ -1 ≤ plN p) := by
      have h1 := Hps.out.1
      have h2 := Hps.out.2
      unfold PowS.ok at h2
      unfold plN
      split
      · have := h1 (by assumption); omega
      · omega
    have h64m : (64 : Int) - (m : Int) = ((64 - m : Nat) : Int) := by omega
    have hpl64 : (pad64 b).length = 64 := pad64_length b (by rw [Hl.out]; exact hm)
    have hpv : vb b ++ List.replicate (64 - m) (Value.int .u8 0) = vb (pad64 b) := by
      unfold pad64
      rw [Hl.out, vb_append]
      congr 1
      simp [vb]
    have Hpv := Lib.hid hpv
    have H64 := Lib.hid h64m
    clear hpv h64m
    by_cases hz : plN p = 0
    · have hz' : (plN p == 0) = true := beq_iff_eq.2 hz
      obtain ⟨e1, e2, e3, e4⟩ := gone_z ho' hz
      have hkt : min (max p.torn 0) 64 = (k : Int) := by rw [e1] at hk; exact hk
      have Hkt := Lib.hid hkt
      clear hkt
      rw [e1]
      simp only
      have E4 := Lib.hid e4
      clear e1 hk e4
      rw [hz] at c2 hz' hpb
      have HPP := Lib.hid hz
      clear hz
      generalize hTT : p.torn = TT at *
      have hNN : ((64 * n : Nat) : Int) = 64 * (n : Int) := by omega
      have HTT := Lib.hid hTT
      clear hTT hNN
      generalize h64 : 64 * n = N at *
      have HN := Lib.hid h64
      clear h64
      go_enter Try.func19, Try.ntmps19
      go_upto_region 6 with (first | (at_builtin; refine wpList_copy_bytes _ rfl (.tmp 32) (.tmp 33) _ rfl _ _ hel rfl A m c b rfl Hl.out hr (by omega) ?_; intro A1 c1' w1 hC) | (at_builtin; refine wpList_append_zeros _ rfl (.tmp 34) (.tmp 37) _ _ rfl w.heap.size _ _ 1 hel .i64 Try.underlying3 rfl rfl _ m (vb b) rfl hC.own .i64 _ (64 - m) rfl H64.out (by omega) (by omega) hC.below.size ?_; intro v2 w2 hown2 hg2))
      rw [Hpv.out, show m + (64 - m) = 64 by omega] at hown2
      have hb2 : Below w.heap.size w w2 := hC.below.grown hg2 hC.below.size (fun x hx => (hC.own.lt x hx).1)
      have hM2 := H.out.frm (Frm.of_below hb2 []) (by simp) (by simp)
      have hlt := H.out.str.lt
      have hlt2 := H.out.dat.lt
      have hne : gm ≠ gb := H.out.str.ne_ H.out.dat (by decide)
      obtain ⟨A2, c2', rfl, hc2, hcm2, hA2, hr2⟩ := own_shape hown2 (by unfold maxLen; omega)
      have hlo2 : ∀ a, A2 = some a → w.heap.size ≤ a.block := fun a ha => (hown2.lt a.block (by rw [ha]; rfl)).1
      clear hC hg2 hown2 c0 c1 c2 c3 f1 f2 hr
      have d0 : w2.cell? ⟨gm, 0, none⟩ = some (.slice (some ⟨gb, 0, none⟩) N N) := by rw [← HN.out]; exact hM2.str.cell 0
      have d2 : w2.cell? ⟨gm, 2, none⟩ = some (.int .i64 0) := by rw [← HPP.out]; exact hM2.str.cell 2
      have d1 : w2.cell? ⟨gm, 1, none⟩ = some (.bool true) := by have := hM2.str.cell 1; rw [ho'] at this; exact this
      have dt : w2.cell? ⟨gm, 3, none⟩ = some (.int .i64 TT) := by rw [← HTT.out]; exact hM2.str.cell 3
      have g1 : w2.frozen? ⟨gm, 1, none⟩ = false := hM2.str.free 1
      have hkt := Hkt.out
      have g2 : w2.frozen? ⟨gm, 2, none⟩ = false := hM2.str.free 2
      have hiN : (64 : Int) * (i : Int) + 64 ≤ (N : Int) := by have := HN.out; omega
      have hi0 : (0 : Int) ≤ 64 * (i : Int) := by omega
      go_upto_region 11 with (fail)
      have hS3 := (hM2.str.put 1 (.bool false)).put 2 (.int .i64 (-1))
      have hB3 := (hM2.dat.far (p := ⟨gm, 1, none⟩) (Ne.symm hne) (.bool false)).far (p := ⟨gm, 2, none⟩) (Ne.symm hne) (.int .i64 (-1))
      have hF3 : Frm w ((w2.setCell ⟨gm, 1, none⟩ (.bool false)).setCell ⟨gm, 2, none⟩ (.int .i64 (-1))) [gm] := ((Frm.of_below hb2 [gm]).put (.inl (by simp)) _).put (.inl (by simp)) _
      have hF23 : Frm w2 ((w2.setCell ⟨gm, 1, none⟩ (.bool false)).setCell ⟨gm, 2, none⟩ (.int .i64 (-1))) [gm] := ((Frm.refl w2 [gm]).put (.inl (by simp)) _).put (.inl (by simp)) _
      have hr3 := hr2.frm2 hF23 (fun _ a ha => by have := hlo2 a ha; simp; omega)
      have d3 : ((w2.setCell ⟨gm, 1, none⟩ (.bool false)).setCell ⟨gm, 2, none⟩ (.int .i64 (-1))).cell? ⟨gm, 0, none⟩ = some (.slice (some ⟨gb, 0, none⟩) N N) := by rw [← HN.out]; exact hS3.cell 0
      have HM2 := Lib.hid hM2
      clear d0 d1 d2 dt g1 g2 hr2 hF23 hM2 hb2 hkt
      generalize (w2.setCell ⟨gm, 1, none⟩ (.bool false)).setCell ⟨gm, 2, none⟩ (.int .i64 (-1)) = W3 at *
      have hkN : (64 : Int) * (i : Int) + (k : Int) ≤ (N : Int) := by omega
      have hk0 : (64 : Int) * (i : Int) ≤ 64 * (i : Int) + (k : Int) := by omega
      refine wp_region_lit ?_
      refine wpList_quiet 12 (by kernel_rfl) ?_
      simp only [List.take_succ_cons, List.take_zero, List.drop_succ_cons, List.drop_zero]
      intro K0 hK0
      repeat (go_big_quiet_step (fail))
      refine wpQuiet_nil ?_
      refine hK0 _ ?_
      clear hK0 K0
      have hN := HN.out
      have htk : ((pad64 b).take k).length = k := by rw [List.length_take, hpl64]; omega
      refine wpList_copy_blk W3 rfl (.tmp 72) (.tmp 73) _ _ rfl 5 Try.underlying32 (by kernel_rfl) (some ⟨gb, 64 * i, none⟩) A2 (64 * i + k - 64 * i) (N - 64 * i) 64 c2' rfl rfl gb (64 * i) (vb bs) 5 hB3 _ (vb ((pad64 b).take k)) (by rw [vb_length, htk]; show k = min 64 (64 * i + k - 64 * i); omega) (fun _ => rfl) (by rw [vb_take]; exact hr3.take k) (by rw [vb_length, vb_length, htk, H.out.len]; omega) (vb_one _) ?_
      intro w4 hC4
      have hb4 := hC4.blk
      rw [← vb_splice] at hb4
      have hs4 := hS3.frm hC4.frm (by simpa using hne)
      refine wpList_nil ?_
      go_wp2
      go_ret
      refine ⟨rfl, ⟨?_, hb4, Hpw.out, ?_, H.out.n1, hn2⟩, (hF3.sub (by simp)).tr hC4.frm (by simp)⟩
      · rw [e2, e3, E4.out, hN]
        rw [HPP.out, HTT.out, ho', hN] at hs4
        exact hs4
      · rw [length_splice _ _ _ (by rw [htk, H.out.len]; omega), H.out.len]
    · have hz' : (plN p == 0) = false := beq_eq_false_iff_ne.2 hz
      obtain ⟨e1, e2, e3, e4⟩ := gone_nz Hps.out ho' hz
      have hk' : k = 64 := by rw [e1] at hk; omega
      subst hk'
      rw [e1]
      simp only
      have E4 := Lib.hid e4
      clear e1 hk e4 hz
      generalize hPP : plN p = PP at *
      generalize hTT : p.torn = TT at *
      have hNN : ((64 * n : Nat) : Int) = 64 * (n : Int) := by omega
      have HPP := Lib.hid hPP
      have HTT := Lib.hid hTT
      clear hPP hTT hNN
      generalize h64 : 64 * n = N at *
      have HN := Lib.hid h64
      clear h64
      go_enter Try.func19, Try.ntmps19
      go_upto_region 6 with (first | (at_builtin; refine wpList_copy_bytes _ rfl (.tmp 32) (.tmp 33) _ rfl _ _ hel rfl A m c b rfl Hl.out hr (by omega) ?_; intro A1 c1' w1 hC) | (at_builtin; refine wpList_append_zeros _ rfl (.tmp 34) (.tmp 37) _ _ rfl w.heap.size _ _ 1 hel .i64 Try.underlying3 rfl rfl _ m (vb b) rfl hC.own .i64 _ (64 - m) rfl H64.out (by omega) (by omega) hC.below.size ?_; intro v2 w2 hown2 hg2))
      rw [Hpv.out, show m + (64 - m) = 64 by omega] at hown2
      have hb2 : Below w.heap.size w w2 := hC.below.grown hg2 hC.below.size (fun x hx => (hC.own.lt x hx).1)
      have hM2 := H.out.frm (Frm.of_below hb2 []) (by simp) (by simp)
      have hlt := H.out.str.lt
      have hlt2 := H.out.dat.lt
      have hne : gm ≠ gb := H.out.str.ne_ H.out.dat (by decide)
      obtain ⟨A2, c2', rfl, hc2, hcm2, hA2, hr2⟩ := own_shape hown2 (by unfold maxLen; omega)
      have hlo2 : ∀ a, A2 = some a → w.heap.size ≤ a.block := fun a ha => (hown2.lt a.block (by rw [ha]; rfl)).1
      clear hC hg2 hown2 c0 c1 c2 c3 f1 f2 hr
      have d0 : w2.cell? ⟨gm, 0, none⟩ = some (.slice (some ⟨gb, 0, none⟩) N N) := by rw [← HN.out]; exact hM2.str.cell 0
      have d2 : w2.cell? ⟨gm, 2, none⟩ = some (.int .i64 PP) := by rw [← HPP.out]; exact hM2.str.cell 2
      have g2 : w2.frozen? ⟨gm, 2, none⟩ = false := hM2.str.free 2
      have hiN : (64 : Int) * (i : Int) + 64 ≤ (N : Int) := by have := HN.out; omega
      have hi0 : (0 : Int) ≤ 64 * (i : Int) := by omega
      go_upto_region 11 with (fail)
      have hS3 := hM2.str.put 2 (.int .i64 (max (PP - 1) (-1)))
      have hB3 := hM2.dat.far (p := ⟨gm, 2, none⟩) (Ne.symm hne) (.int .i64 (max (PP - 1) (-1)))
      have hF3 : Frm w (w2.setCell ⟨gm, 2, none⟩ (.int .i64 (max (PP - 1) (-1)))) [gm] := (Frm.of_below hb2 [gm]).put (.inl (by simp)) _
      have hF23 : Frm w2 (w2.setCell ⟨gm, 2, none⟩ (.int .i64 (max (PP - 1) (-1)))) [gm] := (Frm.refl w2 [gm]).put (.inl (by simp)) _
      have hr3 := hr2.frm2 hF23 (fun _ a ha => by have := hlo2 a ha; simp; omega)
      have d3 : (w2.setCell ⟨gm, 2, none⟩ (.int .i64 (max (PP - 1) (-1)))).cell? ⟨gm, 0, none⟩ = some (.slice (some ⟨gb, 0, none⟩) N N) := by rw [← HN.out]; exact hS3.cell 0
      have HM2 := Lib.hid hM2
      clear d0 d2 g2 hr2 hF23 hM2 hb2
      generalize w2.setCell ⟨gm, 2, none⟩ (.int .i64 (max (PP - 1) (-1))) = W3 at *
      refine wp_region_lit ?_
      refine wpList_quiet 12 (by kernel_rfl) ?_
      simp only [List.take_succ_cons, List.take_zero, List.drop_succ_cons, List.drop_zero]
      intro K0 hK0
      repeat (go_big_quiet_step (fail))
      refine wpQuiet_nil ?_
      refine hK0 _ ?_
      clear hK0 K0
      have hN := HN.out
      have htk : (pad64 b).take 64 = pad64 b := List.take_of_length_le (by rw [hpl64]; omega)
      refine wpList_copy_blk W3 rfl (.tmp 72) (.tmp 73) _ _ rfl 5 Try.underlying32 (by kernel_rfl) (some ⟨gb, 64 * i, none⟩) A2 (64 * i + 64 - 64 * i) (N - 64 * i) 64 c2' rfl rfl gb (64 * i) (vb bs) 5 hB3 _ (vb (pad64 b)) (by rw [vb_length, hpl64]; show 64 = min 64 (64 * i + 64 - 64 * i); omega) (fun _ => rfl) hr3 (by rw [vb_length, vb_length, hpl64, H.out.len]; omega) (vb_one _) ?_
      intro w4 hC4
      have hb4 := hC4.blk
      rw [← vb_splice] at hb4
      have hs4 := hS3.frm hC4.frm (by simpa using hne)
      refine wpList_nil ?_
      go_wp2
      go_ret
      refine ⟨rfl, ⟨?_, hb4, Hpw.out, ?_, H.out.n1, hn2⟩, (hF3.sub (by simp)).tr hC4.frm (by simp)⟩
      · rw [e2, e3, ← E4.out, hN]
        rw [HPP.out, HTT.out, ho', hN] at hs4
        exact hs4
      · rw [length_splice _ _ _ (by rw [hpl64, H.out.len]; omega), H.out.len]
end Go.Proofs.Yteglbehjokldjaa
