/- DigestJoins, walked. -/
import Derived.Test.YtpcpkmpkpjohmaaDl
import Derived.StillTailTactics
import Derived.Deep.DeepCutAuto
namespace Go.Proofs.Ytpcpkmpkpjohmaa
open Go.RowKit

theorem join2 (a b : DgS) (h : a.len + b.len < 18446744073709551616) : joinL ⟨0, 0⟩ [a, b] = ⟨a.len + b.len, (a.sum * powN 1000003 b.len % PR + b.sum % PR) % PR⟩ := by
  unfold joinL
  rw [List.foldl_cons, List.foldl_cons, List.foldl_nil]
  unfold joinN
  simp only [Nat.zero_add, Nat.zero_mul, Nat.zero_mod]
  rw [Nat.mod_eq_of_lt (a := a.len) (by omega), Nat.mod_eq_of_lt h]
  congr 1
  rw [← Nat.add_mod_mod, Nat.mod_mul_mod]
theorem cut_join (a b : DgS) (h1 : b.len ≤ a.len) (h2 : b.sum < PR) (h3 : a.sum < PR) (h4 : a.len < 18446744073709551616) : joinL ⟨0, 0⟩ [b, cutN a b] = a := by
  obtain ⟨al, am⟩ := a
  obtain ⟨bl, bm⟩ := b
  simp only at h1 h2 h3 h4
  rw [join2 _ _ (by simp only [cutN]; omega)]
  simp only [cutN]
  have hm : bm * powN 1000003 (al - bl) % PR < PR := Nat.mod_lt _ PR_pos
  generalize bm * powN 1000003 (al - bl) % PR = s at *
  congr 1
  · omega
  · unfold PR at *
    omega
theorem cut_lt (a b : DgS) : (cutN a b).sum < PR := Nat.mod_lt _ PR_pos

set_option maxHeartbeats 1000000 in
set_option maxRecDepth 100000 in
theorem djoins_far (a b : DgS) (w : World) (h : 4611686018427387904 ≤ a.sum ∨ 4611686018427387904 ≤ b.sum ∨ 4611686018427387904 ≤ a.len ∨ 4611686018427387904 ≤ b.len) :
    Calls Try.prog 7 #[a.val, b.val] w fun e w' => e = .returned (.bool true) ∧ Below w.heap.size w w' := by
  obtain ⟨al, am⟩ := a
  obtain ⟨bl, bm⟩ := b
  simp only at h
  have ha : (4611686018427387904 : Int) ≤ am ∨ (4611686018427387904 : Int) ≤ bm ∨ (4611686018427387904 : Int) ≤ al ∨ (4611686018427387904 : Int) ≤ bl := by omega
  clear h
  change Calls _ _ #[.agg #[.int .u64 (al : Int), .int .u64 (am : Int)], .agg #[.int .u64 (bl : Int), .int .u64 (bm : Int)]] _ _
  go_enter Try.func7, Try.ntmps7
  have h0 : Bk ((w.alloc (.cells #[.int .u64 (al : Int), .int .u64 (am : Int)] 46)).alloc (.cells #[.int .u64 (bl : Int), .int .u64 (bm : Int)] 46)) w.heap.size 46 #[.int .u64 (al : Int), .int .u64 (am : Int)] := (Bk.new _ _ _).alloc _
  have h1 : Bk ((w.alloc (.cells #[.int .u64 (al : Int), .int .u64 (am : Int)] 46)).alloc (.cells #[.int .u64 (bl : Int), .int .u64 (bm : Int)] 46)) (w.heap.size + 1) 46 #[.int .u64 (bl : Int), .int .u64 (bm : Int)] := by
    have := Bk.new (w.alloc (.cells #[.int .u64 (al : Int), .int .u64 (am : Int)] 46)) 46 #[.int .u64 (bl : Int), .int .u64 (bm : Int)]
    simpa using this
  have h3 : Below w.heap.size w ((w.alloc (.cells #[.int .u64 (al : Int), .int .u64 (am : Int)] 46)).alloc (.cells #[.int .u64 (bl : Int), .int .u64 (bm : Int)] 46)) := below_al (below_al (Below.refl _ _) _) _
  go_wp2_with fail
  generalize (w.alloc (.cells #[.int .u64 (al : Int), .int .u64 (am : Int)] 46)).alloc (.cells #[.int .u64 (bl : Int), .int .u64 (bm : Int)] 46) = W at *
  refine (dlives _).mono ?_
  rintro e w1 ⟨rfl, hb⟩
  have K0 := h0.below hb h0.lt
  have K1 := h1.below hb h1.lt
  have K3 := below_tr h3 hb
  clear h0 h1 h3 hb
  have k0 : w1.cell? ⟨w.heap.size, 0, none⟩ = some (.int .u64 (al : Int)) := K0.cell 0
  have k1 : w1.cell? ⟨w.heap.size, 1, none⟩ = some (.int .u64 (am : Int)) := K0.cell 1
  have k2 : w1.cell? ⟨w.heap.size + 1, 0, none⟩ = some (.int .u64 (bl : Int)) := K1.cell 0
  have k3 : w1.cell? ⟨w.heap.size + 1, 1, none⟩ = some (.int .u64 (bm : Int)) := K1.cell 1
  by_cases q1 : (4611686018427387904 : Int) ≤ am
  · clear ha
    go_wp2_with fail
    refine (dlives _).mono ?_
    rintro e w2 ⟨rfl, hb⟩
    go_wp2_with fail
    go_ret
    exact ⟨rfl, below_tr K3 hb⟩
  by_cases q2 : (4611686018427387904 : Int) ≤ bm
  · clear ha
    go_wp2_with fail
    refine (dlives _).mono ?_
    rintro e w2 ⟨rfl, hb⟩
    go_wp2_with fail
    go_ret
    exact ⟨rfl, below_tr K3 hb⟩
  by_cases q3 : (4611686018427387904 : Int) ≤ al
  · clear ha
    go_wp2_with fail
    refine (dlives _).mono ?_
    rintro e w2 ⟨rfl, hb⟩
    go_wp2_with fail
    go_ret
    exact ⟨rfl, below_tr K3 hb⟩
  · have q4 : (4611686018427387904 : Int) ≤ bl := by omega
    clear ha
    go_wp2_with fail
    refine (dlives _).mono ?_
    rintro e w2 ⟨rfl, hb⟩
    go_wp2_with fail
    go_ret
    exact ⟨rfl, below_tr K3 hb⟩
end Go.Proofs.Ytpcpkmpkpjohmaa
