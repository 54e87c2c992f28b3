/- digest.Cut, walked. -/
import Derived.Test.YtpcpkmpkpjohmaaDj
import Derived.StillTailTactics
namespace Go.Proofs.Ytpcpkmpkpjohmaa
open Go.RowKit

/-- The digest that a cut answers with, where it is a true one. -/
def cutN (d x : DgS) : DgS := ⟨d.len - x.len, (d.sum + (PR - x.sum * powN 1000003 (d.len - x.len) % PR)) % PR⟩
theorem agg0 : (Value.agg #[.int .u64 0, .int .u64 0]) = .agg #[.int .u64 ((0 : Nat) : Int), .int .u64 ((0 : Nat) : Int)] := rfl
theorem sub_pr {a : Nat} (h : a < PR) : IntKind.u64.wrap (2305843009213693951 - (a : Int)) = ((PR - a : Nat) : Int) := by
  unfold PR at *
  have e : (2305843009213693951 : Int) - (a : Int) = ((2305843009213693951 - a : Nat) : Int) := by omega
  rw [e, u64_of (by omega)]
theorem sub_len {a b : Nat} (h : b ≤ a) (ha : a < 18446744073709551616) : IntKind.u64.wrap ((a : Int) - (b : Int)) = ((a - b : Nat) : Int) := by
  have e : (a : Int) - (b : Int) = ((a - b : Nat) : Int) := by omega
  rw [e, u64_of (by omega)]

set_option maxHeartbeats 1000000 in
set_option maxRecDepth 100000 in
theorem cut_bad (d x : DgS) (w : World) (h : d.len < x.len ∨ PR ≤ x.sum ∨ PR ≤ d.sum) :
    Calls Try.prog 27 #[d.val, x.val] w fun e w' => e = .returned (.tuple #[.agg #[.int .u64 0, .int .u64 0], .bool false]) ∧ Below w.heap.size w w' := by
  obtain ⟨dl, ds⟩ := d
  obtain ⟨xl, xs⟩ := x
  unfold PR at h
  simp only at h
  have ha : (dl : Int) < xl ∨ (2305843009213693951 : Int) ≤ xs ∨ (2305843009213693951 : Int) ≤ ds := by omega
  clear h
  change Calls _ _ #[.agg #[.int .u64 (dl : Int), .int .u64 (ds : Int)], .agg #[.int .u64 (xl : Int), .int .u64 (xs : Int)]] _ _
  go_enter Try.func27, Try.ntmps27
  by_cases h1 : (dl : Int) < xl
  · clear ha
    go_wp2_with fail
    exact bodyPost_ret (v := .tuple #[.agg #[.int .u64 0, .int .u64 0], .bool false]) (by simp [results, Try.results27, go_sem]) rfl ⟨rfl, by repeat (first | exact Below.refl _ _ | refine below_al ?_ _ | refine below_put ?_ (by simp) _)⟩
  by_cases h2 : (2305843009213693951 : Int) ≤ xs
  · clear ha
    go_wp2_with fail
    exact bodyPost_ret (v := .tuple #[.agg #[.int .u64 0, .int .u64 0], .bool false]) (by simp [results, Try.results27, go_sem]) rfl ⟨rfl, by repeat (first | exact Below.refl _ _ | refine below_al ?_ _ | refine below_put ?_ (by simp) _)⟩
  · have h3 : (2305843009213693951 : Int) ≤ ds := by omega
    clear ha
    go_wp2_with fail
    exact bodyPost_ret (v := .tuple #[.agg #[.int .u64 0, .int .u64 0], .bool false]) (by simp [results, Try.results27, go_sem]) rfl ⟨rfl, by repeat (first | exact Below.refl _ _ | refine below_al ?_ _ | refine below_put ?_ (by simp) _)⟩

set_option maxHeartbeats 1000000 in
set_option maxRecDepth 100000 in
theorem cut_good (d x : DgS) (w : World) (h1 : x.len ≤ d.len) (h2 : x.sum < PR) (h3 : d.sum < PR) (h4 : d.len < 18446744073709551616) :
    Calls Try.prog 27 #[d.val, x.val] w fun e w' => e = .returned (.tuple #[(cutN d x).val, .bool true]) ∧ Below w.heap.size w w' := by
  obtain ⟨dl, ds⟩ := d
  obtain ⟨xl, xs⟩ := x
  simp only at h1 h2 h3 h4
  have hlen := sub_len h1 h4
  have hp := fun W : World => power_any (dl - xl) W (by omega)
  have ht := fun W : World => times_any xs (powN 1000003 (dl - xl)) W h2 (powN_lt _ _)
  have hm : xs * powN 1000003 (dl - xl) % PR < PR := Nat.mod_lt _ PR_pos
  have hsub := sub_pr hm
  have hpl := fun W : World => plus_any ds (PR - xs * powN 1000003 (dl - xl) % PR) W (by unfold PR at *; omega)
  change Calls _ _ #[.agg #[.int .u64 (dl : Int), .int .u64 (ds : Int)], .agg #[.int .u64 (xl : Int), .int .u64 (xs : Int)]] _ fun e w' => e = .returned (.tuple #[.agg #[.int .u64 ((dl - xl : Nat) : Int), .int .u64 (((ds + (PR - xs * powN 1000003 (dl - xl) % PR)) % PR : Nat) : Int)], .bool true]) ∧ Below w.heap.size w w'
  generalize (ds + (PR - xs * powN 1000003 (dl - xl) % PR)) % PR = s2 at *
  generalize PR - xs * powN 1000003 (dl - xl) % PR = s3 at *
  generalize xs * powN 1000003 (dl - xl) % PR = s1 at *
  generalize powN 1000003 (dl - xl) = p at *
  have g1 : ¬ (dl : Int) < xl := by omega
  have g2 : ¬ (2305843009213693951 : Int) ≤ xs := by unfold PR at h2; omega
  have g3 : ¬ (2305843009213693951 : Int) ≤ ds := by unfold PR at h3; omega
  generalize dl - xl = l2 at *
  have Hp := Lib.hid hp
  have Ht := Lib.hid ht
  have Hpl := Lib.hid hpl
  have Hsub := Lib.hid hsub
  clear hp ht hpl hm h1 h2 h3 h4 hsub
  go_enter Try.func27, Try.ntmps27
  go_upto_region 4 with (fail)
  have h0 : Bk (((w.alloc (.cells #[.int .u64 (dl : Int), .int .u64 (ds : Int)] 46)).alloc (.cells #[.int .u64 (xl : Int), .int .u64 (xs : Int)] 46)).alloc (.cells #[.int .u64 0, .int .u64 0] 46)) w.heap.size 46 #[.int .u64 (dl : Int), .int .u64 (ds : Int)] := ((Bk.new _ _ _).alloc _).alloc _
  have h1 : Bk (((w.alloc (.cells #[.int .u64 (dl : Int), .int .u64 (ds : Int)] 46)).alloc (.cells #[.int .u64 (xl : Int), .int .u64 (xs : Int)] 46)).alloc (.cells #[.int .u64 0, .int .u64 0] 46)) (w.heap.size + 1) 46 #[.int .u64 (xl : Int), .int .u64 (xs : Int)] := by
    have := (Bk.new (w.alloc (.cells #[.int .u64 (dl : Int), .int .u64 (ds : Int)] 46)) 46 #[.int .u64 (xl : Int), .int .u64 (xs : Int)]).alloc (.cells #[.int .u64 0, .int .u64 0] 46)
    simpa using this
  have h2 : Bk (((w.alloc (.cells #[.int .u64 (dl : Int), .int .u64 (ds : Int)] 46)).alloc (.cells #[.int .u64 (xl : Int), .int .u64 (xs : Int)] 46)).alloc (.cells #[.int .u64 0, .int .u64 0] 46)) (w.heap.size + 1 + 1) 46 #[.int .u64 0, .int .u64 0] := by
    have := Bk.new ((w.alloc (.cells #[.int .u64 (dl : Int), .int .u64 (ds : Int)] 46)).alloc (.cells #[.int .u64 (xl : Int), .int .u64 (xs : Int)] 46)) 46 #[.int .u64 0, .int .u64 0]
    simpa using this
  have h3 : Below w.heap.size w (((w.alloc (.cells #[.int .u64 (dl : Int), .int .u64 (ds : Int)] 46)).alloc (.cells #[.int .u64 (xl : Int), .int .u64 (xs : Int)] 46)).alloc (.cells #[.int .u64 0, .int .u64 0] 46)) := below_al (below_al (below_al (Below.refl _ _) _) _) _
  generalize ((w.alloc (.cells #[.int .u64 (dl : Int), .int .u64 (ds : Int)] 46)).alloc (.cells #[.int .u64 (xl : Int), .int .u64 (xs : Int)] 46)).alloc (.cells #[.int .u64 0, .int .u64 0] 46) = W at *
  have K0 : Bk W.drew w.heap.size 46 #[.int .u64 (dl : Int), .int .u64 (ds : Int)] := h0
  have K1 : Bk W.drew (w.heap.size + 1) 46 #[.int .u64 (xl : Int), .int .u64 (xs : Int)] := h1
  have K2 : Bk W.drew (w.heap.size + 1 + 1) 46 #[.int .u64 0, .int .u64 0] := h2
  have K3 : Below w.heap.size w W.drew := below_drN h3 1
  refine wp_region_still_tail 11 (by kernel_rfl) (by kernel_rfl) ?_
  simp only [List.take_succ_cons, List.take_zero, List.drop_succ_cons, List.drop_zero]
  change wpStill _ _ W.drew (fun a' => wpList _ _ _ _ a' W.drew) _ _
  clear h0 h1 h2 h3 g1 g2 g3
  generalize W.drew = V at *
  have k0 : V.cell? ⟨w.heap.size, 0, none⟩ = some (.int .u64 (dl : Int)) := K0.cell 0
  have k1 : V.cell? ⟨w.heap.size, 1, none⟩ = some (.int .u64 (ds : Int)) := K0.cell 1
  have k2 : V.cell? ⟨w.heap.size + 1, 0, none⟩ = some (.int .u64 (xl : Int)) := K1.cell 0
  have k3 : V.cell? ⟨w.heap.size + 1, 1, none⟩ = some (.int .u64 (xs : Int)) := K1.cell 1
  have k4 : V.cell? ⟨w.heap.size + 1 + 1, 0, none⟩ = some (.int .u64 0) := K2.cell 0
  have k5 : V.cell? ⟨w.heap.size + 1 + 1, 1, none⟩ = some (.int .u64 0) := K2.cell 1
  have e4 : V.frozen? ⟨w.heap.size + 1 + 1, 0, none⟩ = false := K2.free 0
  have e5 : V.frozen? ⟨w.heap.size + 1 + 1, 1, none⟩ = false := K2.free 1
  have hsub := Hsub.out
  repeat (first | still_step | (refine wpStill_step (fun K hK => ?_); go_simp; (first | refine ⟨_, (Hp.out _).mono (by rintro e w1 ⟨rfl, rfl⟩; exact ⟨rfl, rfl⟩), hK _ ?_⟩ | refine ⟨_, (Ht.out _).mono (by rintro e w1 ⟨rfl, rfl⟩; exact ⟨rfl, rfl⟩), hK _ ?_⟩ | refine ⟨_, (Hpl.out _).mono (by rintro e w1 ⟨rfl, rfl⟩; exact ⟨rfl, rfl⟩), hK _ ?_⟩); clear hK K))
  refine wpStill_nil ?_
  go_wp2
  exact bodyPost_ret (v := .tuple #[.agg #[.int .u64 (l2 : Int), .int .u64 (s2 : Int)], .bool true]) (by simp [results, Try.results27, go_sem, k4, k5]) rfl ⟨rfl, (K3.setCell (by simp; omega) _).setCell (by simp; omega) _⟩
end Go.Proofs.Ytpcpkmpkpjohmaa
