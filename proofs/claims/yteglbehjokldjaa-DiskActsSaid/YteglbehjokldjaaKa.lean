/- The disk of layer 5: New, Len, Put, Get. -/
import Derived.Test.YteglbehjokldjaaPw
import Derived.Test.YteglbehjokldjaaSl
import Derived.Test.YteglbehjokldjaaWg
import Derived.Test.YteglbehjokldjaaOs
import Derived.Deep.DeepCutAuto
namespace Go.Proofs.Yteglbehjokldjaa
open Go.RowKit
attribute [local go_sem] max_int2 min_int2

theorem elm_sec : Elm Try.prog 43 139 (.agg (List.replicate 64 (Value.int .u8 0)).toArray) 64 64 := Elm.mk Try.underlying43 (by kernel_rfl) (by simp [Value.cells]) (by omega)
theorem made_rep (z : Value) (k N : Nat) (hk : 0 < k) : madeCells (List.replicate k z).toArray N = (List.replicate N z).toArray := by
  apply Array.ext
  · simp [size_madeCells]
  · intro i h1 h2
    have h64 : i % k < k := Nat.mod_lt _ hk
    simp [madeCells, h64]
theorem made_sec (N : Nat) : madeCells (Value.agg (List.replicate 64 (Value.int .u8 0)).toArray).cells N = (vb (List.replicate N 0)).toArray := by
  have e : (Value.agg (List.replicate 64 (Value.int .u8 0)).toArray).cells = (List.replicate 64 (Value.int .u8 0)).toArray := rfl
  have e2 : vb (List.replicate N 0) = List.replicate N (Value.int .u8 0) := by unfold vb; rw [List.map_replicate]; rfl
  rw [e, made_rep _ 64 N (by omega), e2]

/-- A disk: its struct in g, its power in pg, its sectors in gs. -/
structure Dk (w : World) (g pg gs n : Nat) (p : PowS) (bs : List UInt8) : Prop where
  str : Bk w g 45 #[.pointer (some ⟨pg, 0, none⟩), .slice (some ⟨gs, 0, none⟩) n n]
  sec : Bk w gs 139 (vb bs).toArray
  pow : Pw w pg p
  len : bs.length = 64 * n
  n1 : 1 ≤ n
  n2 : n ≤ 65536
theorem Dk.frm {w w' : World} {g pg gs n : Nat} {p : PowS} {bs : List UInt8} {F : List Nat} (h : Dk w g pg gs n p bs) (k : Frm w w' F) (h1 : g ∉ F) (h2 : pg ∉ F) (h3 : gs ∉ F) : Dk w' g pg gs n p bs :=
  ⟨h.str.frm k h1, h.sec.frm k h3, h.pow.frm k h2, h.len, h.n1, h.n2⟩
theorem Dk.below {w w' : World} {g pg gs n : Nat} {p : PowS} {bs : List UInt8} (h : Dk w g pg gs n p bs) (k : Below w.heap.size w w') : Dk w' g pg gs n p bs :=
  h.frm (Frm.of_below k []) (by simp) (by simp) (by simp)

/-- A new disk. -/
def DnewE (w : World) (n pg : Nat) (p : PowS) (e : Ending) (w' : World) : Prop :=
  ∃ g gs, e = .returned (.tuple #[.pointer (some ⟨g, 0, none⟩), .int .i64 0]) ∧ w.heap.size ≤ g ∧ w.heap.size ≤ gs ∧ g ≠ gs ∧ Dk w' g pg gs n p (List.replicate (64 * n) 0) ∧ Below w.heap.size w w'
set_option maxHeartbeats 1000000 in
set_option maxRecDepth 100000 in
theorem dnew_ok (w : World) (n : Nat) (pg : Nat) (p : PowS) (hp : Pw w pg p) (h1 : 1 ≤ n) (h2 : n ≤ 65536) :
    Calls Try.prog 16 #[.int .i64 (n : Int), .pointer (some ⟨pg, 0, none⟩)] w (DnewE w n pg p) := by
  have g1 : ¬ (n : Int) < 1 := by omega
  have g2 : ¬ (65536 : Int) < (n : Int) := by omega
  go_enter Try.func16, Try.ntmps16
  obtain ⟨Z, hZ⟩ : ∃ Z, Z = (vb (List.replicate (64 * n) 0)).toArray := ⟨_, rfl⟩
  have HZ := Lib.hid hZ
  clear hZ
  go_wp2_with (refine wpList_make_cs w rfl _ _ _ rfl _ _ 64 64 elm_sec .i64 .i64 _ _ n n rfl rfl rfl rfl (Nat.le_refl _) (by omega) (by omega) Z (by rw [made_sec, HZ.out, Nat.mul_comm]) ?_)
  go_ret2
  have hz := HZ.out
  have hb := Bk.new w 139 Z
  refine ⟨w.heap.size + 1, w.heap.size, rfl, by omega, Nat.le_refl _, by omega, ⟨?_, ?_, ?_, by rw [List.length_replicate], h1, h2⟩, below_al (below_al (Below.refl _ _) _) _⟩
  · exact (by simpa using Bk.new (w.alloc (.cells Z 139)) 45 #[.pointer (some ⟨pg, 0, none⟩), .slice (some ⟨w.heap.size, 0, none⟩) n n])
  · rw [← hz]; exact hb.alloc _
  · exact hp.frm (((Frm.refl w []).alloc _).alloc _) (by simp)
theorem dnew_no (w : World) (n : Int) (P : Option Addr) (h : n < 1 ∨ 65536 < n ∨ P = none) :
    Calls Try.prog 16 #[.int .i64 n, .pointer P] w fun e w' => e = .returned (.tuple #[.pointer none, .int .i64 1]) ∧ w = w' := by
  by_cases h1 : n < 1
  · clear h
    go_enter Try.func16, Try.ntmps16
    go_wp2
    go_ret2
    exact ⟨rfl, rfl⟩
  by_cases h2 : 65536 < n
  · clear h
    go_enter Try.func16, Try.ntmps16
    go_wp2
    go_ret2
    exact ⟨rfl, rfl⟩
  obtain rfl : P = none := by rcases h with h | h | h <;> first | omega | exact h
  clear h
  go_enter Try.func16, Try.ntmps16
  go_wp2
  go_ret2
  exact ⟨rfl, rfl⟩
theorem dlen_any (w : World) (g pg gs n : Nat) (p : PowS) (bs : List UInt8) (h : Dk w g pg gs n p bs) : Calls Try.prog 17 #[.pointer (some ⟨g, 0, none⟩)] w fun e w' => e = .returned (.int .i64 (n : Int)) ∧ w = w' := by
  have h1 : w.cell? ⟨g, 1, none⟩ = some (.slice (some ⟨gs, 0, none⟩) n n) := h.str.cell 1
  clear h
  go_enter Try.func17, Try.ntmps17
  go_wp2
  go_ret
  exact ⟨rfl, rfl⟩
theorem dlen_nil (w : World) : Calls Try.prog 17 #[.pointer none] w fun e w' => e = .returned (.int .i64 0) ∧ w = w' := by
  go_enter Try.func17, Try.ntmps17
  go_wp2
  go_ret
  exact ⟨rfl, rfl⟩

/-- What a sector's bytes come to. -/
def pad64 (b : List UInt8) : List UInt8 := b ++ List.replicate (64 - b.length) 0
theorem pad64_length (b : List UInt8) (h : b.length ≤ 64) : (pad64 b).length = 64 := by simp [pad64]; omega
theorem gone_le (p : PowS) (n : Int) (hn : 0 ≤ n) : 0 ≤ (p.gone n).1 ∧ (p.gone n).1 ≤ n := by
  unfold PowS.gone
  split
  · omega
  split
  · simp only; omega
  split
  · simp only; omega
  split
  · simp only; omega
  · simp only; omega
/-- The sectors behind a Put that goes to the device. -/
def putB (p : PowS) (bs : List UInt8) (i : Nat) (b : List UInt8) : List UInt8 := splice bs (64 * i) ((pad64 b).take (p.gone 64).1.toNat)
theorem dput_no (w : World) (g pg gs n : Nat) (p : PowS) (bs : List UInt8) (h : Dk w g pg gs n p bs) (i : Int) (A : Option Addr) (m c : Nat) (hi : i < 0 ∨ (n : Int) ≤ i ∨ 64 < m) :
    Calls Try.prog 18 #[.pointer (some ⟨g, 0, none⟩), .int .i64 i, .slice A m c] w fun e w' => e = .returned (.int .i64 1) ∧ w = w' := by
  have hL := Lib.hid (dlen_any w g pg gs n p bs h)
  by_cases h1 : i < 0
  · clear hi h
    go_enter Try.func18, Try.ntmps18
    go_wp2
    go_ret
    exact ⟨rfl, rfl⟩
  by_cases h2 : (n : Int) ≤ i
  · clear hi h
    go_enter Try.func18, Try.ntmps18
    go_wp2_with (go_at_call 17; refine (hL.out).mono ?_; rintro e w1 ⟨rfl, rfl⟩)
    go_ret
    exact ⟨rfl, rfl⟩
  have h3 : (64 : Int) < (m : Int) := by omega
  clear hi h
  go_enter Try.func18, Try.ntmps18
  go_wp2_with (go_at_call 17; refine (hL.out).mono ?_; rintro e w1 ⟨rfl, rfl⟩)
  go_ret
  exact ⟨rfl, rfl⟩

theorem splice_pad (b : List UInt8) : splice (List.replicate 64 0) 0 b = pad64 b := by
  unfold splice pad64
  rw [List.take_zero, List.nil_append, List.drop_replicate, Nat.zero_add]
set_option maxHeartbeats 4000000 in
set_option maxRecDepth 100000 in
theorem dput_ok (w : World) (g pg gs n : Nat) (p : PowS) (bs : List UInt8) (h : Dk w g pg gs n p bs) (i : Nat) (hi : i < n) (A : Option Addr) (m c : Nat) (b : List UInt8) (hl : b.length = m) (hm : m ≤ 64) (hr : Rd w w.heap.size A (vb b)) :
    Calls Try.prog 18 #[.pointer (some ⟨g, 0, none⟩), .int .i64 (i : Int), .slice A m c] w fun e w' => e = .returned (.int .i64 (p.gone 64).2) ∧ Dk w' g pg gs n (p.wrote 64) (putB p bs i b) ∧ Frm w w' [pg, gs] := by
  have hL := Lib.hid (dlen_any w g pg gs n p bs h)
  have hgl := gone_le p 64 (by omega)
  have hWr := Lib.hid fun (W : World) (hW : Pw W pg p) => pow_write W pg p 64 hW
  obtain ⟨k, hk⟩ : ∃ k : Nat, (p.gone 64).1 = (k : Int) := ⟨(p.gone 64).1.toNat, by omega⟩
  have hput : putB p bs i b = splice bs (64 * i) ((pad64 b).take k) := by
    unfold putB
    rw [hk]
    rfl
  have hk64 : k ≤ 64 := by omega
  rw [hk] at hWr
  rw [hput]
  generalize (p.gone 64).2 = e2 at *
  have c0 : w.cell? ⟨g, 0, none⟩ = some (.pointer (some ⟨pg, 0, none⟩)) := h.str.cell 0
  have hne1 : g ≠ pg := h.str.ne_ h.pow.1 (by decide)
  have hne2 : g ≠ gs := h.str.ne_ h.sec (by decide)
  have hne3 : gs ≠ pg := h.sec.ne_ h.pow.1 (by decide)
  have Hl := Lib.hid hl
  have H := Lib.hid h
  have HZ : Hid ((List.replicate 64 (Value.int .u8 0)) = vb (List.replicate 64 0)) := Lib.hid rfl
  clear hput hgl hk hl h
  go_enter Try.func18, Try.ntmps18
  go_upto_region 4 with (first | (go_at_call 17; refine (hL.out).mono ?_; rintro e w1 ⟨rfl, rfl⟩) | fail)
  have hB0 : Bk (w.alloc (.cells (vb (List.replicate 64 0)).toArray 139)) w.heap.size 139 (vb (List.replicate 64 0)).toArray := Bk.new w _ _
  have hF0 := (Frm.refl w []).alloc (.cells (vb (List.replicate 64 0)).toArray 139)
  have hr0 := hr.alloc_ (.cells (vb (List.replicate 64 0)).toArray 139)
  change Code.wp _ _ _ _ (w.alloc (.cells (vb (List.replicate 64 0)).toArray 139))
  have hgz := H.out.sec.lt
  have hgp := H.out.pow.lt
  clear hr
  generalize w.alloc (.cells (vb (List.replicate 64 0)).toArray 139) = W0 at *
  generalize hgw : w.heap.size = gz at *
  have Hgw := Lib.hid (Nat.le_of_eq hgw)
  clear hgw
  refine wp_region_lit ?_
  refine wpList_step fun K hK => ?_
  go_simp
  refine hK _ _ ?_
  clear hK K
  refine wpList_step fun K hK => ?_
  go_simp
  refine hK _ _ ?_
  clear hK K
  refine wpList_copy_blk W0 rfl (.tmp 23) (.tmp 24) _ _ rfl 5 Try.underlying32 (by kernel_rfl) (some ⟨gz, 0, none⟩) A 64 64 m c rfl rfl gz 0 (vb (List.replicate 64 0)) 139 hB0 _ (vb b) ?c2 (fun _ => rfl) hr0 ?c4 (vb_one _) ?_
  case c2 => rw [vb_length, Hl.out]; exact (Nat.min_eq_left hm).symm
  case c4 => rw [vb_length, vb_length, Hl.out, List.length_replicate]; omega
  intro w1 hC1
  rw [← vb_splice, splice_pad] at hC1
  have hF1 : Frm w w1 [] := hF0.tr hC1.frm (by intro x hx; simp at hx; subst hx; exact .inr Hgw.out)
  have hZ1 := hC1.blk
  have hD1 : Dk w1 g pg gs n p bs := H.out.frm hF1 (by simp) (by simp) (by simp)
  have c0 : w1.cell? ⟨g, 0, none⟩ = some (.pointer (some ⟨pg, 0, none⟩)) := hD1.str.cell 0
  clear hC1
  refine wpList_nil ?_
  go_wp2_with fail
  refine (hWr.out w1 hD1.pow).mono ?_
  rintro e w2 ⟨rfl, hp2, hF2, hs2⟩
  have hD2s : Bk w2 g 45 _ := hD1.str.frm hF2 (by simpa using hne1)
  have hD2b := hD1.sec.frm hF2 (by simpa using hne3)
  have hZ2 := hZ1.frm hF2 (by simp; omega)
  have c1 : w2.cell? ⟨g, 1, none⟩ = some (.slice (some ⟨gs, 0, none⟩) n n) := hD2s.cell 1
  have HD := Lib.hid hD1
  clear hD1 hZ1
  go_wp2_with fail
  haveI : Nonempty (Wof fun W => W.cell? ⟨g, 1, none⟩ = some (.slice (some ⟨gs, 0, none⟩) n n)) := ⟨⟨w2, c1⟩⟩
  have f1 : ∀ u : Wof fun W => W.cell? ⟨g, 1, none⟩ = some (.slice (some ⟨gs, 0, none⟩) n n), u.1.cell? ⟨g, 1, none⟩ = some (.slice (some ⟨gs, 0, none⟩) n n) := fun u => u.2
  have hki : (k : Int) ≤ 64 := by omega
  have hii : (i : Int) < (n : Int) := by omega
  refine wp_region_pcs [.reads [0, 4, 6, 8, 1, 9, 2, 3, 5, 7], .write 10] (fun W => ∃ u : Wof fun W => W.cell? ⟨g, 1, none⟩ = some (.slice (some ⟨gs, 0, none⟩) n n), W = u.1) (by kernel_rfl) (by kernel_rfl) (by kernel_rfl) (by kernel_rfl) ⟨⟨w2.drew, c1⟩, rfl⟩ ?_
  refine wpPcs_reads (by simp only [List.filterMap_cons, List.filterMap_nil, List.getElem?_toArray, List.getElem?_cons_succ, List.getElem?_cons_zero]; rfl) ?_
  intro K0 hK0
  refine (show wpQuiet _ _ _ _ (_ :: _ :: _ :: _ :: _ :: _ :: _ :: _ :: _ :: _ :: []) _ from ?_)
  repeat (go_big_quiet_step (fail))
  refine wpQuiet_nil ?_
  refine hK0 _ ?_
  clear hK0 K0
  refine wpPcs_write (by simp only [List.getElem?_toArray, List.getElem?_cons_succ, List.getElem?_cons_zero]; rfl) ?_
  intro K hK
  have hD := HD.out
  have hpl := pad64_length b (by rw [Hl.out]; exact hm)
  have htk : ((pad64 b).take k).length = k := by rw [List.length_take, hpl]; omega
  have hrz : Rd w2.drew w2.heap.size (some ⟨gz, 0, none⟩) (vb ((pad64 b).take k)) := by
    rw [vb_take]
    refine Rd.take (Rd.of_bk hZ2 0 _ fun j u hu => ?_) k
    rw [Nat.zero_add, List.getElem?_toArray]
    exact hu
  refine step_copy_blk w2.drew rfl (.tmp 41) (.tmp 43) _ _ rfl 5 Try.underlying32 (by kernel_rfl) (some ⟨gs, i * 64, none⟩) (some ⟨gz, 0, none⟩) k 64 k 64 rfl rfl gs (i * 64) (vb bs) 139 hD2b _ (vb ((pad64 b).take k)) ?c5 (fun _ => rfl) hrz ?c7 (vb_one _) ?_
  case c5 => rw [vb_length, htk]; exact (Nat.min_self k).symm
  case c7 => rw [vb_length, vb_length, htk, hD.len]; omega
  intro w3 hC3
  have hs3 : Bk w3 g 45 _ := (hD2s.drewN 1).frm hC3.frm (by simpa using hne2)
  refine hK (fun W => ∃ u : Wof fun W => W.cell? ⟨g, 1, none⟩ = some (.slice (some ⟨gs, 0, none⟩) n n), W = u.1) _ _ (fun W h => h) ⟨⟨w3, hs3.cell 1⟩, rfl⟩ ?_
  clear hK K
  refine wpPcs_nil ?_
  have hF3 : Frm w w3 [pg, gs] := ((hF1.sub (by simp)).tr hF2 (by simp)).drew.tr hC3.frm (by simp)
  have hb3 := hC3.blk
  rw [← vb_splice, Nat.mul_comm i 64] at hb3
  go_wp2
  go_ret
  refine ⟨rfl, ⟨hs3, hb3, ⟨(hp2.1.drewN 1).frm hC3.frm (by simpa using Ne.symm hne3), hp2.2⟩, ?_, hD.n1, hD.n2⟩, hF3⟩
  rw [length_splice _ _ _ (by rw [htk, hD.len]; omega), hD.len]

/-- What Get leaves. -/
def DgetE (w : World) (b : List UInt8) (e : Ending) (w' : World) : Prop :=
  ∃ A, e = .returned (.tuple #[.slice A 64 64, .int .i64 0]) ∧ w'.ownsRow w.heap.size 139 1 (.slice A 64 64) 64 (vb b) ∧ Below w.heap.size w w'
theorem dget_no (w : World) (g pg gs n : Nat) (p : PowS) (bs : List UInt8) (h : Dk w g pg gs n p bs) (i : Int) (hi : i < 0 ∨ (n : Int) ≤ i) :
    Calls Try.prog 20 #[.pointer (some ⟨g, 0, none⟩), .int .i64 i] w fun e w' => e = .returned (.tuple #[.slice none 0 0, .int .i64 1]) ∧ w = w' := by
  have hL := Lib.hid (dlen_any w g pg gs n p bs h)
  by_cases h1 : i < 0
  · clear hi h
    go_enter Try.func20, Try.ntmps20
    go_wp2
    go_ret2
    exact ⟨rfl, rfl⟩
  have h2 : (n : Int) ≤ i := by omega
  clear hi h
  go_enter Try.func20, Try.ntmps20
  go_wp2_with (go_at_call 17; refine (hL.out).mono ?_; rintro e w1 ⟨rfl, rfl⟩)
  go_ret2
  exact ⟨rfl, rfl⟩
theorem dget_off (w : World) (g pg gs n : Nat) (p : PowS) (bs : List UInt8) (h : Dk w g pg gs n p bs) (i : Nat) (hi : i < n) (ho : p.off = true) :
    Calls Try.prog 20 #[.pointer (some ⟨g, 0, none⟩), .int .i64 (i : Int)] w fun e w' => e = .returned (.tuple #[.slice none 0 0, .int .i64 11]) ∧ w = w' := by
  have hL := Lib.hid (dlen_any w g pg gs n p bs h)
  have hO := pow_on w pg p h.pow
  rw [ho] at hO
  have HO := Lib.hid hO
  have c0 : w.cell? ⟨g, 0, none⟩ = some (.pointer (some ⟨pg, 0, none⟩)) := h.str.cell 0
  clear h hO ho
  go_enter Try.func20, Try.ntmps20
  go_wp2_with (first | (go_at_call 17; refine (hL.out).mono ?_; rintro e w1 ⟨rfl, rfl⟩) | (go_at_call 58; refine (HO.out).mono ?_; rintro e w1 ⟨rfl, rfl⟩))
  go_ret2
  exact ⟨rfl, rfl⟩
end Go.Proofs.Yteglbehjokldjaa
