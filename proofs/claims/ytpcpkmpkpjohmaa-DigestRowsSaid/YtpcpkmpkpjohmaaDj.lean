/- digest.Join and digest.Cut, walked. -/
import Derived.Test.YtpcpkmpkpjohmaaDr
import Derived.StillTailTactics
import Derived.Deep.RegionHeld3
namespace Go.Proofs.Ytpcpkmpkpjohmaa
open Go.RowKit

/-- A digest: its length and its sum. -/
structure DgS where
  len : Nat
  sum : Nat
deriving DecidableEq
def DgS.cells (d : DgS) : List Value := [.int .u64 (d.len : Int), .int .u64 (d.sum : Int)]
def DgS.val (d : DgS) : Value := .agg #[.int .u64 (d.len : Int), .int .u64 (d.sum : Int)]
def joinN (d x : DgS) : DgS := ⟨(d.len + x.len) % 18446744073709551616, (d.sum * powN 1000003 x.len % PR + x.sum) % PR⟩
def joinL (d : DgS) (l : List DgS) : DgS := l.foldl joinN d
theorem joinL_snoc (d : DgS) (l : List DgS) (x : DgS) : joinL d (l ++ [x]) = joinN (joinL d l) x := by
  unfold joinL
  rw [List.foldl_append, List.foldl_cons, List.foldl_nil]
theorem joinL_lt (l : List DgS) : (joinL ⟨0, 0⟩ l).sum < PR := by
  rcases List.eq_nil_or_concat l with rfl | ⟨l', c, rfl⟩
  · exact PR_pos
  · rw [List.concat_eq_append, joinL_snoc]
    exact Nat.mod_lt _ PR_pos
theorem joinL_take (l : List DgS) (k : Nat) (x : DgS) (h : l[k]? = some x) : joinL ⟨0, 0⟩ (l.take (k + 1)) = joinN (joinL ⟨0, 0⟩ (l.take k)) x := by
  obtain ⟨h1, rfl⟩ := List.getElem?_eq_some_iff.1 h
  rw [List.take_succ_eq_append_getElem h1, joinL_snoc]
theorem flat2 (l : List DgS) (k : Nat) (a : DgS) (h : l[k]? = some a) : (l.flatMap DgS.cells)[k * 2]? = some (.int .u64 (a.len : Int)) ∧ (l.flatMap DgS.cells)[k * 2 + 1]? = some (.int .u64 (a.sum : Int)) := by
  induction l generalizing k with
  | nil => simp at h
  | cons b l ih =>
    cases k with
    | zero =>
      simp at h
      subst h
      simp [DgS.cells]
    | succ k =>
      have := ih k (by simpa using h)
      rw [List.flatMap_cons]
      have e : (k + 1) * 2 = 2 + k * 2 := by omega
      rw [e, show 2 + k * 2 + 1 = 2 + (k * 2 + 1) from by omega]
      have hl : b.cells.length = 2 := rfl
      rw [List.getElem?_append_right (by omega), List.getElem?_append_right (by omega), hl]
      simpa using this

set_option maxHeartbeats 1000000 in
set_option maxRecDepth 100000 in
theorem join_any (A : Option Addr) (n c : Nat) (l : List DgS) (w : World) (hl : l.length = n) (hn : n ≤ 1000000) (hr : Rd w w.heap.size A (l.flatMap DgS.cells)) (hok : ∀ x ∈ l, x.len < 18446744073709551616 ∧ x.sum < 4611686018427387904) :
    Calls Try.prog 28 #[.slice A n c] w fun e w' => e = .returned (joinL ⟨0, 0⟩ l).val ∧ Below w.heap.size w w' := by
  have Hl := Lib.hid hl
  have Hok := Lib.hid hok
  clear hl hok
  go_enter Try.func28, Try.ntmps28
  go_wp2_with fail
  go_loopw [8] (fun i wr => ∃ (k : Nat) (d : DgS), k ≤ n ∧ i = .int .i64 k ∧ Hid (d = joinL ⟨0, 0⟩ (l.take k)) ∧ Bk wr w.heap.size 46 #[.int .u64 0, .int .u64 0] ∧ Bk wr (w.heap.size + 1) 46 #[.int .u64 (d.len : Int), .int .u64 (d.sum : Int)] ∧ Below w.heap.size w wr) (fun i _ => n - (intOf i).toNat)
  case atStart =>
    refine ⟨0, ⟨0, 0⟩, Nat.zero_le _, rfl, rfl, (Bk.new w _ _).alloc _, ?_, below_al (below_al (Below.refl _ _) _) _⟩
    have := Bk.new (w.alloc (.cells #[.int .u64 0, .int .u64 0] 46)) 46 #[.int .u64 0, .int .u64 0]
    simpa using this
  case round =>
    obtain ⟨k, d, hk, rfl, Hd, hb0, hb1, hbr⟩ := hrel
    by_cases hlt : k < n
    · obtain ⟨x, hx⟩ : ∃ x, l[k]? = some x := ⟨l[k]'(by have := Hl.out; omega), List.getElem?_eq_getElem _⟩
      obtain ⟨g0, g1⟩ := flat2 l k x hx
      obtain ⟨b, off, rfl, hbw, hc0⟩ := hr _ _ g0
      obtain ⟨b', off', e, _, hc1⟩ := hr _ _ g1
      simp only [Option.some.injEq, Addr.mk.injEq, and_true] at e
      obtain ⟨rfl, rfl⟩ := e
      rw [← hbr.cell (p := ⟨b, _, none⟩) hbw] at hc0 hc1
      rw [← Nat.add_assoc] at hc1
      have hxo := Hok.out x (List.mem_of_getElem? hx)
      have hdl := joinL_lt (l.take k)
      rw [← Hd.out] at hdl
      have hnext := joinL_take l k x hx
      rw [← Hd.out] at hnext
      obtain ⟨xl, xs⟩ := x
      obtain ⟨dl, ds⟩ := d
      simp only at hc0 hc1 hxo hdl hb1
      have hp := fun W : World => power_any xl W hxo.1
      have ht := fun W : World => times_any ds (powN 1000003 xl) W hdl (powN_lt _ _)
      have hm : ds * powN 1000003 xl % PR < PR := Nat.mod_lt _ PR_pos
      have hpl := fun W : World => plus_any (ds * powN 1000003 xl % PR) xs W (by unfold PR at hm ⊢; omega)
      have hlen : IntKind.u64.wrap ((dl : Int) + (xl : Int)) = (((dl + xl) % 18446744073709551616 : Nat) : Int) := by rw [addN, u64_mod]
      unfold joinN at hnext
      simp only at hnext
      generalize (ds * powN 1000003 xl % PR + xs) % PR = s2 at *
      generalize ds * powN 1000003 xl % PR = s1 at *
      generalize powN 1000003 xl = p at *
      generalize (dl + xl) % 18446744073709551616 = l2 at *
      have Hp := Lib.hid hp
      have Ht := Lib.hid ht
      have Hpl := Lib.hid hpl
      have Hn := Lib.hid hnext
      have hsz : w.heap.size + 1 < wr.heap.size := hb1.lt
      clear hp ht hpl hnext hxo hdl hm g0 g1 hx
      have d0 : wr.cell? ⟨w.heap.size + 1, 0, none⟩ = some (.int .u64 (dl : Int)) := hb1.cell 0
      have d1 : wr.cell? ⟨w.heap.size + 1, 1, none⟩ = some (.int .u64 (ds : Int)) := hb1.cell 1
      have e0 : wr.frozen? ⟨w.heap.size + 1, 0, none⟩ = false := hb1.free 0
      have e1 : wr.frozen? ⟨w.heap.size + 1, 1, none⟩ = false := hb1.free 1
      go_upto_region 5 with (fail)
      have hW0 : Bk (wr.alloc (.cells #[.int .u64 (xl : Int), .int .u64 (xs : Int)] 46)) wr.heap.size 46 #[.int .u64 (xl : Int), .int .u64 (xs : Int)] := Bk.new _ _ _
      have hW1 := hb0.alloc (.cells #[.int .u64 (xl : Int), .int .u64 (xs : Int)] 46)
      have hW2 := hb1.alloc (.cells #[.int .u64 (xl : Int), .int .u64 (xs : Int)] 46)
      have hW3 := below_al hbr (.cells #[.int .u64 (xl : Int), .int .u64 (xs : Int)] 46)
      clear d0 d1 e0 e1 hc0 hc1
      generalize wr.alloc (.cells #[.int .u64 (xl : Int), .int .u64 (xs : Int)] 46) = W at *
      generalize wr.heap.size = gx at *
      have d0 : W.cell? ⟨w.heap.size + 1, 0, none⟩ = some (.int .u64 (dl : Int)) := hW2.cell 0
      have d1 : W.cell? ⟨w.heap.size + 1, 1, none⟩ = some (.int .u64 (ds : Int)) := hW2.cell 1
      have e0 : W.frozen? ⟨w.heap.size + 1, 0, none⟩ = false := hW2.free 0
      have e1 : W.frozen? ⟨w.heap.size + 1, 1, none⟩ = false := hW2.free 1
      have x0 : W.cell? ⟨gx, 0, none⟩ = some (.int .u64 (xl : Int)) := hW0.cell 0
      have x1 : W.cell? ⟨gx, 1, none⟩ = some (.int .u64 (xs : Int)) := hW0.cell 1
      have k0 : W.drew.cell? ⟨w.heap.size + 1, 0, none⟩ = some (.int .u64 (dl : Int)) := d0
      have k1 : W.drew.cell? ⟨w.heap.size + 1, 1, none⟩ = some (.int .u64 (ds : Int)) := d1
      have k2 : W.drew.cell? ⟨gx, 0, none⟩ = some (.int .u64 (xl : Int)) := x0
      have k3 : W.drew.cell? ⟨gx, 1, none⟩ = some (.int .u64 (xs : Int)) := x1
      have k4 : W.drew.frozen? ⟨w.heap.size + 1, 0, none⟩ = false := e0
      have k5 : W.drew.frozen? ⟨w.heap.size + 1, 1, none⟩ = false := e1
      have K0 : Bk W.drew w.heap.size 46 #[.int .u64 0, .int .u64 0] := hW1
      have K1 : Bk W.drew (w.heap.size + 1) 46 #[.int .u64 (dl : Int), .int .u64 (ds : Int)] := hW2
      have K2 : Below w.heap.size w W.drew := below_drN hW3 1
      refine wp_region_still_tail 15 (by kernel_rfl) (by kernel_rfl) ?_
      simp only [List.take_succ_cons, List.take_zero, List.drop_succ_cons, List.drop_zero]
      change wpStill _ _ W.drew (fun a' => wpList _ _ _ _ a' W.drew) _ _
      clear d0 d1 e0 e1 x0 x1 hW0 hW1 hW2 hW3 hb0 hb1 hbr
      generalize W.drew = V at *
      repeat (first | still_step | (refine wpStill_step (fun K hK => ?_); go_simp; (first | refine ⟨_, (Hp.out _).mono (by rintro e w1 ⟨rfl, rfl⟩; exact ⟨rfl, rfl⟩), hK _ ?_⟩ | refine ⟨_, (Ht.out _).mono (by rintro e w1 ⟨rfl, rfl⟩; exact ⟨rfl, rfl⟩), hK _ ?_⟩ | refine ⟨_, (Hpl.out _).mono (by rintro e w1 ⟨rfl, rfl⟩; exact ⟨rfl, rfl⟩), hK _ ?_⟩); clear hK K))
      refine wpStill_nil ?_
      go_wp2
      refine ⟨⟨k + 1, ⟨l2, s2⟩, by omega, by simp, Hn.out.symm, (K0.far (by simp) _).far (by simp) _, (K1.put 0 _).put 1 _, (K2.setCell (by simp) _).setCell (by simp) _⟩, ?_⟩
      simp only [intOf]
      omega
    · obtain rfl : k = n := by omega
      rw [List.take_of_length_le (by rw [Hl.out]; omega)] at Hd
      have hd := Hd.out
      clear Hd
      have c0 : wr.cell? ⟨w.heap.size + 1, 0, none⟩ = some (.int .u64 (d.len : Int)) := hb1.cell 0
      have c1 : wr.cell? ⟨w.heap.size + 1, 1, none⟩ = some (.int .u64 (d.sum : Int)) := hb1.cell 1
      have r0 : wr.cell? ⟨w.heap.size, 0, none⟩ = some (.int .u64 0) := hb0.cell 0
      have r1 : wr.cell? ⟨w.heap.size, 1, none⟩ = some (.int .u64 0) := hb0.cell 1
      have q0 : wr.frozen? ⟨w.heap.size, 0, none⟩ = false := hb0.free 0
      have q1 : wr.frozen? ⟨w.heap.size, 1, none⟩ = false := hb0.free 1
      go_wp2_with fail
      exact bodyPost_ret (v := .agg #[.int .u64 (d.len : Int), .int .u64 (d.sum : Int)]) (by subst hd; simp [results, Try.results28, go_sem, r0, r1]) rfl ⟨by subst hd; rfl, (hbr.setCell (by simp) _).setCell (by simp) _⟩
end Go.Proofs.Ytpcpkmpkpjohmaa
