/- DigestJoins, walked inside its domain. -/
import Derived.Test.YtpcpkmpkpjohmaaDm
import Derived.StillTailTactics
import Derived.Deep.DeepCutAuto
namespace Go.Proofs.Ytpcpkmpkpjohmaa
open Go.RowKit

theorem rem_nat (a : Nat) : ((a : Int)).tmod 2305843009213693951 = ((a % PR : Nat) : Int) := by
  rw [Int.tmod_eq_emod_of_nonneg (Int.natCast_nonneg _), mod_nat]

set_option maxHeartbeats 2000000 in
set_option maxRecDepth 100000 in
theorem djoins_in (a b : DgS) (w : World) (h1 : a.sum < 4611686018427387904) (h2 : b.sum < 4611686018427387904) (h3 : a.len < 4611686018427387904) (h4 : b.len < 4611686018427387904) :
    Calls Try.prog 7 #[a.val, b.val] w fun e w' => e = .returned (.bool true) ∧ Below w.heap.size w w' := by
  have hj2 := join2 a b (by omega)
  have hcut := fun (W : World) hh1 hh2 hh3 => cut_good a b W hh1 hh2 hh3 (by omega)
  have hbad := fun (W : World) hh => cut_bad a b W hh
  have hback := fun hh1 hh2 hh3 => cut_join a b hh1 hh2 hh3 (by omega)
  have hcl := cut_lt a b
  have hcll : (cutN a b).len ≤ a.len := Nat.sub_le _ _
  obtain ⟨al, am⟩ := a
  obtain ⟨bl, bm⟩ := b
  simp only at h1 h2 h3 h4 hj2 hcut hbad hback hcll
  have ha1 : decide ((4611686018427387904 : Int) ≤ am) = false := decide_eq_false (by omega)
  have ha2 : decide ((4611686018427387904 : Int) ≤ bm) = false := decide_eq_false (by omega)
  have ha3 : decide ((4611686018427387904 : Int) ≤ al) = false := decide_eq_false (by omega)
  have ha4 : decide ((4611686018427387904 : Int) ≤ bl) = false := decide_eq_false (by omega)
  have hp := fun W : World => rpower_any 62 bl W (by omega) (by omega)
  have ht := fun W : World => rtimes_any am (powN 1000003 bl) W (by omega) (Nat.lt_of_lt_of_le (powN_lt _ _) (by unfold PR; omega))
  have hm : am * powN 1000003 bl % PR < PR := Nat.mod_lt _ PR_pos
  have hm2 : bm % PR < PR := Nat.mod_lt _ PR_pos
  have hadd := add_mod (am * powN 1000003 bl % PR) (bm % PR) (by unfold PR at *; omega)
  have hrem := rem_nat bm
  have hlen : IntKind.u64.wrap ((al : Int) + (bl : Int)) = ((al + bl : Nat) : Int) := by rw [addN, u64_of (by omega)]
  generalize (am * powN 1000003 bl % PR + bm % PR) % PR = want at *
  generalize am * powN 1000003 bl % PR = s1 at *
  generalize bm % PR = s3 at *
  generalize powN 1000003 bl = p at *
  generalize al + bl = ls at *
  have Hp := Lib.hid hp
  have Ht := Lib.hid ht
  have Hadd := Lib.hid hadd
  have Hrem := Lib.hid hrem
  have Hlen := Lib.hid hlen
  have Hj2 := Lib.hid hj2
  have Hcut := Lib.hid hcut
  have Hbad := Lib.hid hbad
  have Hback := Lib.hid hback
  have Hcl := Lib.hid (And.intro hcl hcll)
  have Hdom := Lib.hid (And.intro h1 (And.intro h2 (And.intro h3 h4)))
  clear hp ht hadd hrem hlen hj2 hcut hbad hback hcl hcll hm hm2 h1 h2 h3 h4
  change Calls _ _ #[.agg #[.int .u64 (al : Int), .int .u64 (am : Int)], .agg #[.int .u64 (bl : Int), .int .u64 (bm : Int)]] _ _
  go_enter Try.func7, Try.ntmps7
  have h0 : Bk ((w.alloc (.cells #[.int .u64 (al : Int), .int .u64 (am : Int)] 46)).alloc (.cells #[.int .u64 (bl : Int), .int .u64 (bm : Int)] 46)) w.heap.size 46 #[.int .u64 (al : Int), .int .u64 (am : Int)] := (Bk.new _ _ _).alloc _
  have h1 : Bk ((w.alloc (.cells #[.int .u64 (al : Int), .int .u64 (am : Int)] 46)).alloc (.cells #[.int .u64 (bl : Int), .int .u64 (bm : Int)] 46)) (w.heap.size + 1) 46 #[.int .u64 (bl : Int), .int .u64 (bm : Int)] := by
    have := Bk.new (w.alloc (.cells #[.int .u64 (al : Int), .int .u64 (am : Int)] 46)) 46 #[.int .u64 (bl : Int), .int .u64 (bm : Int)]
    simpa using this
  have h3 : Below w.heap.size w ((w.alloc (.cells #[.int .u64 (al : Int), .int .u64 (am : Int)] 46)).alloc (.cells #[.int .u64 (bl : Int), .int .u64 (bm : Int)] 46)) := below_al (below_al (Below.refl _ _) _) _
  go_wp2_with fail
  generalize (w.alloc (.cells #[.int .u64 (al : Int), .int .u64 (am : Int)] 46)).alloc (.cells #[.int .u64 (bl : Int), .int .u64 (bm : Int)] 46) = W at *
  refine (dlives _).mono ?_
  rintro e w1 ⟨rfl, hb⟩
  have K0 := h0.below hb h0.lt
  have K1 := h1.below hb h1.lt
  have K3 := below_tr h3 hb
  clear h0 h1 h3 hb
  have k0 : w1.cell? ⟨w.heap.size, 0, none⟩ = some (.int .u64 (al : Int)) := K0.cell 0
  have k1 : w1.cell? ⟨w.heap.size, 1, none⟩ = some (.int .u64 (am : Int)) := K0.cell 1
  have k2 : w1.cell? ⟨w.heap.size + 1, 0, none⟩ = some (.int .u64 (bl : Int)) := K1.cell 0
  have k3 : w1.cell? ⟨w.heap.size + 1, 1, none⟩ = some (.int .u64 (bm : Int)) := K1.cell 1
  go_upto_region 3 with (fail)
  go_cut [5] (fun s5 wc => ∃ g, s5 = .pointer (some ⟨g, 0, none⟩) ∧ Bk wc w.heap.size 46 #[.int .u64 (al : Int), .int .u64 (am : Int)] ∧ Bk wc (w.heap.size + 1) 46 #[.int .u64 (bl : Int), .int .u64 (bm : Int)] ∧ Bk wc g 46 #[.int .u64 (ls : Int), .int .u64 (want : Int)] ∧ Below w.heap.size w wc)
  case first =>
    have hlen := Hlen.out
    have hrem := Hrem.out
    have hadd := Hadd.out
    have hsz := K1.lt
    go_region_held3 (fun w' => w'.cell? ⟨w.heap.size, 0, none⟩ = some (.int .u64 (al : Int)) ∧ w'.cell? ⟨w.heap.size, 1, none⟩ = some (.int .u64 (am : Int)) ∧ w'.cell? ⟨w.heap.size + 1, 0, none⟩ = some (.int .u64 (bl : Int)) ∧ w'.cell? ⟨w.heap.size + 1, 1, none⟩ = some (.int .u64 (bm : Int))) (first | exact ⟨k0, k1, k2, k3⟩ | go_keep)
      (first | (go_at_call 30; refine (Hp.out _).mono ?_; rintro e w1 ⟨rfl, rfl⟩) | (go_at_call 29; refine (Ht.out _).mono ?_; rintro e w1 ⟨rfl, rfl⟩))
    all_goals go_wp2
    all_goals go_meet
    all_goals exact ⟨_, rfl, K0.alloc _, K1.alloc _, Bk.new _ _ _, below_drN (below_al K3 _) 1⟩
  obtain ⟨g5, rfl, M0, M1, M2, M3⟩ := hcut
  clear K0 K1 K3 k0 k1 k2 k3
  generalize wc = X at *
  have k0 : X.cell? ⟨w.heap.size, 0, none⟩ = some (.int .u64 (al : Int)) := M0.cell 0
  have k1 : X.cell? ⟨w.heap.size, 1, none⟩ = some (.int .u64 (am : Int)) := M0.cell 1
  have k2 : X.cell? ⟨w.heap.size + 1, 0, none⟩ = some (.int .u64 (bl : Int)) := M1.cell 0
  have k3 : X.cell? ⟨w.heap.size + 1, 1, none⟩ = some (.int .u64 (bm : Int)) := M1.cell 1
  have hjn := join_any (some ⟨X.heap.size, 0, none⟩) 2 2 [⟨al, am⟩, ⟨bl, bm⟩] (X.alloc (.cells #[.int .u64 (al : Int), .int .u64 (am : Int), .int .u64 (bl : Int), .int .u64 (bm : Int)] 46)) rfl (by omega) (Rd.new X #[.int .u64 (al : Int), .int .u64 (am : Int), .int .u64 (bl : Int), .int .u64 (bm : Int)] 46) (by
    intro x hx
    obtain ⟨d1, d2, d3, d4⟩ := Hdom.out
    simp only [List.mem_cons, List.not_mem_nil, or_false] at hx
    rcases hx with rfl | rfl <;> simp only <;> omega)
  rw [Hj2.out] at hjn
  have Hjn := Lib.hid hjn
  clear hjn
  go_wp2_with fail
  refine (Hjn.out).mono ?_
  rintro e X1 ⟨rfl, hb⟩
  have N0 := (M0.alloc (.cells #[.int .u64 (al : Int), .int .u64 (am : Int), .int .u64 (bl : Int), .int .u64 (bm : Int)] 46)).below hb (M0.alloc _).lt
  have N1 := (M1.alloc (.cells #[.int .u64 (al : Int), .int .u64 (am : Int), .int .u64 (bl : Int), .int .u64 (bm : Int)] 46)).below hb (M1.alloc _).lt
  have N2 := (M2.alloc (.cells #[.int .u64 (al : Int), .int .u64 (am : Int), .int .u64 (bl : Int), .int .u64 (bm : Int)] 46)).below hb (M2.alloc _).lt
  have N3 := below_tr (below_al M3 (.cells #[.int .u64 (al : Int), .int .u64 (am : Int), .int .u64 (bl : Int), .int .u64 (bm : Int)] 46)) hb
  clear k0 k1 k2 k3 M0 M1 M2 M3 hb Hjn
  unfold DgS.val
  simp only
  go_upto_region 5 with (fail)
  have O0 := N0.alloc (.cells #[.int .u64 (ls : Int), .int .u64 (want : Int)] 46)
  have O1 := N1.alloc (.cells #[.int .u64 (ls : Int), .int .u64 (want : Int)] 46)
  have O2 := N2.alloc (.cells #[.int .u64 (ls : Int), .int .u64 (want : Int)] 46)
  have O4 : Bk (X1.alloc (.cells #[.int .u64 (ls : Int), .int .u64 (want : Int)] 46)) X1.heap.size 46 #[.int .u64 (ls : Int), .int .u64 (want : Int)] := Bk.new _ _ _
  have O3 := below_al N3 (.cells #[.int .u64 (ls : Int), .int .u64 (want : Int)] 46)
  clear N0 N1 N2 N3
  generalize X1.alloc (.cells #[.int .u64 (ls : Int), .int .u64 (want : Int)] 46) = Y at *
  generalize X1.heap.size = g6 at *
  have k0 : Y.cell? ⟨w.heap.size, 0, none⟩ = some (.int .u64 (al : Int)) := O0.cell 0
  have k1 : Y.cell? ⟨w.heap.size, 1, none⟩ = some (.int .u64 (am : Int)) := O0.cell 1
  have k2 : Y.cell? ⟨w.heap.size + 1, 0, none⟩ = some (.int .u64 (bl : Int)) := O1.cell 0
  have k3 : Y.cell? ⟨w.heap.size + 1, 1, none⟩ = some (.int .u64 (bm : Int)) := O1.cell 1
  have y0 : Y.cell? ⟨g5, 0, none⟩ = some (.int .u64 (ls : Int)) := O2.cell 0
  have y1 : Y.cell? ⟨g5, 1, none⟩ = some (.int .u64 (want : Int)) := O2.cell 1
  have y2 : Y.cell? ⟨g6, 0, none⟩ = some (.int .u64 (ls : Int)) := O4.cell 0
  have y3 : Y.cell? ⟨g6, 1, none⟩ = some (.int .u64 (want : Int)) := O4.cell 1
  go_wp2_with fail
  obtain ⟨d1, d2, d3, d4⟩ := Hdom.out
  by_cases hgood : bl ≤ al ∧ am < PR ∧ bm < PR
  · obtain ⟨q1, q2, q3⟩ := hgood
    refine (Hcut.out _ q1 q3 q2).mono ?_
    rintro e Z ⟨rfl, hb⟩
    have P0 := O0.below hb O0.lt
    have P1 := O1.below hb O1.lt
    have P3 := below_tr O3 hb
    clear O0 O1 O2 O3 O4 k0 k1 k2 k3 y0 y1 y2 y3 hb ha1 ha2 ha3 ha4
    have hback := Hback.out q1 q3 q2
    have hcl := Hcl.out
    generalize cutN ⟨al, am⟩ ⟨bl, bm⟩ = T at *
    obtain ⟨tl, tm⟩ := T
    simp only at hcl
    have f1 : ¬ (al : Int) < bl := by omega
    have f2 : ¬ (2305843009213693951 : Int) ≤ am := by unfold PR at q2; omega
    have f3 : ¬ (2305843009213693951 : Int) ≤ bm := by unfold PR at q3; omega
    have f4 : decide ((tm : Int) < 2305843009213693951) = true := decide_eq_true (by unfold PR at hcl; omega)
    have Hk := Lib.hid hback
    have Hc := Lib.hid hcl
    clear hback hcl q1 q2 q3 d1 d2 d3 d4
    unfold DgS.val
    simp only
    go_upto_region 8 with (fail)
    have Q0 := P0.alloc (.cells #[.int .u64 (tl : Int), .int .u64 (tm : Int)] 46)
    have Q1 := P1.alloc (.cells #[.int .u64 (tl : Int), .int .u64 (tm : Int)] 46)
    have Q4 : Bk (Z.alloc (.cells #[.int .u64 (tl : Int), .int .u64 (tm : Int)] 46)) Z.heap.size 46 #[.int .u64 (tl : Int), .int .u64 (tm : Int)] := Bk.new _ _ _
    have Q3 := below_al P3 (.cells #[.int .u64 (tl : Int), .int .u64 (tm : Int)] 46)
    clear P0 P1 P3
    generalize Z.alloc (.cells #[.int .u64 (tl : Int), .int .u64 (tm : Int)] 46) = U at *
    generalize Z.heap.size = g7 at *
    have k0 : U.cell? ⟨w.heap.size, 0, none⟩ = some (.int .u64 (al : Int)) := Q0.cell 0
    have k1 : U.cell? ⟨w.heap.size, 1, none⟩ = some (.int .u64 (am : Int)) := Q0.cell 1
    have k2 : U.cell? ⟨w.heap.size + 1, 0, none⟩ = some (.int .u64 (bl : Int)) := Q1.cell 0
    have k3 : U.cell? ⟨w.heap.size + 1, 1, none⟩ = some (.int .u64 (bm : Int)) := Q1.cell 1
    have y0 : U.cell? ⟨g7, 0, none⟩ = some (.int .u64 (tl : Int)) := Q4.cell 0
    have y1 : U.cell? ⟨g7, 1, none⟩ = some (.int .u64 (tm : Int)) := Q4.cell 1
    go_upto_region 10 with (fail)
    have hjk := fun (V : World) (B : Nat) (hrd : Rd V V.heap.size (some ⟨B, 0, none⟩) (#[.int .u64 (bl : Int), .int .u64 (bm : Int), .int .u64 (tl : Int), .int .u64 (tm : Int)] : Array Value).toList) => join_any (some ⟨B, 0, none⟩) 2 2 [⟨bl, bm⟩, ⟨tl, tm⟩] V rfl (by omega) hrd (by
      intro x hx
      obtain ⟨d1, d2, d3, d4⟩ := Hdom.out
      obtain ⟨c1, c2⟩ := Hc.out
      unfold PR at c1
      simp only [List.mem_cons, List.not_mem_nil, or_false] at hx
      rcases hx with rfl | rfl <;> simp only <;> omega)
    rw [Hk.out] at hjk
    simp only [DgS.val] at hjk
    have Hjk := Lib.hid hjk
    clear hjk f1 f2 f3
    go_region_held3 (fun w' => w'.cell? ⟨w.heap.size, 0, none⟩ = some (.int .u64 (al : Int)) ∧ w'.cell? ⟨w.heap.size, 1, none⟩ = some (.int .u64 (am : Int)) ∧ w'.cell? ⟨w.heap.size + 1, 0, none⟩ = some (.int .u64 (bl : Int)) ∧ w'.cell? ⟨w.heap.size + 1, 1, none⟩ = some (.int .u64 (bm : Int)) ∧ w'.cell? ⟨g7, 0, none⟩ = some (.int .u64 (tl : Int)) ∧ w'.cell? ⟨g7, 1, none⟩ = some (.int .u64 (tm : Int))) (first | exact ⟨k0, k1, k2, k3, y0, y1⟩ | exact ⟨e0, e1, e2, e3, e4, e5⟩ | go_keep)
      (first | (go_at_call 28; refine (Hjk.out _ _ (by first | exact Rd.new_drew _ #[.int .u64 (bl : Int), .int .u64 (bm : Int), .int .u64 (tl : Int), .int .u64 (tm : Int)] _ | exact Rd.new _ #[.int .u64 (bl : Int), .int .u64 (bm : Int), .int .u64 (tl : Int), .int .u64 (tm : Int)] _)).mono ?_; rintro e u1 ⟨rfl, hbu⟩; have R0 := Bk.below (by exact Q0.alloc (.cells #[.int .u64 (bl : Int), .int .u64 (bm : Int), .int .u64 (tl : Int), .int .u64 (tm : Int)] 46)) hbu (by exact (Q0.alloc (.cells #[.int .u64 (bl : Int), .int .u64 (bm : Int), .int .u64 (tl : Int), .int .u64 (tm : Int)] 46)).lt); have R1 := Bk.below (by exact Q1.alloc (.cells #[.int .u64 (bl : Int), .int .u64 (bm : Int), .int .u64 (tl : Int), .int .u64 (tm : Int)] 46)) hbu (by exact (Q1.alloc (.cells #[.int .u64 (bl : Int), .int .u64 (bm : Int), .int .u64 (tl : Int), .int .u64 (tm : Int)] 46)).lt); have R4 := Bk.below (by exact Q4.alloc (.cells #[.int .u64 (bl : Int), .int .u64 (bm : Int), .int .u64 (tl : Int), .int .u64 (tm : Int)] 46)) hbu (by exact (Q4.alloc (.cells #[.int .u64 (bl : Int), .int .u64 (bm : Int), .int .u64 (tl : Int), .int .u64 (tm : Int)] 46)).lt); have e0 := R0.cell 0; have e1 := R0.cell 1; have e2 := R1.cell 0; have e3 := R1.cell 1; have e4 := R4.cell 0; have e5 := R4.cell 1; have S3 : Below w.heap.size w u1 := below_tr (below_drN (below_al Q3 (.cells #[.int .u64 (bl : Int), .int .u64 (bm : Int), .int .u64 (tl : Int), .int .u64 (tm : Int)] 46)) 1) (by exact hbu)))
    go_wp2
    go_ret
    exact ⟨rfl, S3⟩
  · have hbd : al < bl ∨ PR ≤ bm ∨ PR ≤ am := by omega
    refine (Hbad.out _ hbd).mono ?_
    rintro e Z ⟨rfl, hb⟩
    have P0 := O0.below hb O0.lt
    have P1 := O1.below hb O1.lt
    have P3 := below_tr O3 hb
    have hbd2 : (al : Int) < bl ∨ (2305843009213693951 : Int) ≤ am ∨ (2305843009213693951 : Int) ≤ bm := by unfold PR at hbd; omega
    clear O0 O1 O2 O3 O4 k0 k1 k2 k3 y0 y1 y2 y3 hb ha1 ha2 ha3 ha4 hbd hgood d1 d2 d3 d4
    go_upto_region 8 with (fail)
    have Q0 := P0.alloc (.cells #[.int .u64 0, .int .u64 0] 46)
    have Q1 := P1.alloc (.cells #[.int .u64 0, .int .u64 0] 46)
    have Q4 : Bk (Z.alloc (.cells #[.int .u64 0, .int .u64 0] 46)) Z.heap.size 46 #[.int .u64 0, .int .u64 0] := Bk.new _ _ _
    have Q3 := below_al P3 (.cells #[.int .u64 0, .int .u64 0] 46)
    clear P0 P1 P3
    generalize Z.alloc (.cells #[.int .u64 0, .int .u64 0] 46) = U at *
    generalize Z.heap.size = g7 at *
    have k0 : U.cell? ⟨w.heap.size, 0, none⟩ = some (.int .u64 (al : Int)) := Q0.cell 0
    have k1 : U.cell? ⟨w.heap.size, 1, none⟩ = some (.int .u64 (am : Int)) := Q0.cell 1
    have k2 : U.cell? ⟨w.heap.size + 1, 0, none⟩ = some (.int .u64 (bl : Int)) := Q1.cell 0
    have k3 : U.cell? ⟨w.heap.size + 1, 1, none⟩ = some (.int .u64 (bm : Int)) := Q1.cell 1
    have y0 : U.cell? ⟨g7, 0, none⟩ = some (.int .u64 0) := Q4.cell 0
    have y1 : U.cell? ⟨g7, 1, none⟩ = some (.int .u64 0) := Q4.cell 1
    by_cases q1 : (al : Int) < bl
    · clear hbd2
      go_wp2_with fail
      go_ret
      exact ⟨rfl, Q3⟩
    by_cases q2 : (2305843009213693951 : Int) ≤ am
    · clear hbd2
      go_wp2_with fail
      go_ret
      exact ⟨rfl, Q3⟩
    · have q3 : (2305843009213693951 : Int) ≤ bm := by omega
      clear hbd2
      go_wp2_with fail
      go_ret
      exact ⟨rfl, Q3⟩
end Go.Proofs.Ytpcpkmpkpjohmaa
