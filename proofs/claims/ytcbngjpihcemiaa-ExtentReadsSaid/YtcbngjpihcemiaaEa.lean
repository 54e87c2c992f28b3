/- Runs out of bytes: what they come to, in plain words. -/
import Derived.Test.YtcbngjpihcemiaaVh
namespace Go.Proofs.Ytcbngjpihcemiaa
open Go.RowKit

/-- Runs as cells. -/
def runV : List (Nat × Nat) → List Value
  | [] => []
  | r :: l => .int .i64 (r.1 : Int) :: .int .i64 (r.2 : Int) :: runV l
theorem runV_append (l m : List (Nat × Nat)) : runV (l ++ m) = runV l ++ runV m := by
  induction l with
  | nil => rfl
  | cons r l ih => simp only [List.cons_append, runV, ih]
@[simp] theorem runV_length (l : List (Nat × Nat)) : (runV l).length = l.length * 2 := by
  induction l with
  | nil => rfl
  | cons r l ih => simp only [runV, List.length_cons, ih]; omega
theorem runV_get (l : List (Nat × Nat)) (i : Nat) (r : Nat × Nat) (h : l[i]? = some r) : (runV l)[i * 2]? = some (.int .i64 (r.1 : Int)) ∧ (runV l)[i * 2 + 1]? = some (.int .i64 (r.2 : Int)) := by
  induction l generalizing i with
  | nil => cases h
  | cons q l ih =>
    cases i with
    | zero =>
      simp only [List.getElem?_cons_zero, Option.some.injEq] at h
      subst h
      exact ⟨rfl, rfl⟩
    | succ i =>
      have := ih i (by simpa using h)
      rw [show (i + 1) * 2 = i * 2 + 1 + 1 by omega]
      exact this
/-- Runs of numbers below K, so many more. -/
def runsO (K : Nat) : Nat → RdS → Nat → List (Nat × Nat) → Nat × List (Nat × Nat)
  | 0, s, _, acc => if s.e ≠ 0 then (s.e, []) else (0, acc)
  | n + 1, s, a, acc =>
    if ((s.number (K - a)).2.number (K - (a + (s.number (K - a)).1))).2.e ≠ 0 then (((s.number (K - a)).2.number (K - (a + (s.number (K - a)).1))).2.e, [])
    else if ((s.number (K - a)).2.number (K - (a + (s.number (K - a)).1))).1 = 0 ∨ ((s.number (K - a)).1 = 0 ∧ 0 < acc.length) then (3, [])
    else runsO K n ((s.number (K - a)).2.number (K - (a + (s.number (K - a)).1))).2 (a + (s.number (K - a)).1 + ((s.number (K - a)).2.number (K - (a + (s.number (K - a)).1))).1) (acc ++ [(a + (s.number (K - a)).1, a + (s.number (K - a)).1 + ((s.number (K - a)).2.number (K - (a + (s.number (K - a)).1))).1)])
section
variable {K n a : Nat} {s : RdS} {acc : List (Nat × Nat)} {g z : Nat × RdS}
theorem runsO_bad (h1 : s.number (K - a) = g) (h2 : g.2.number (K - (a + g.1)) = z) (h : z.2.e ≠ 0) : runsO K (n + 1) s a acc = (z.2.e, []) := by
  subst h1 h2
  rw [runsO, if_pos h]
theorem runsO_form (h1 : s.number (K - a) = g) (h2 : g.2.number (K - (a + g.1)) = z) (h : z.2.e = 0) (h3 : z.1 = 0 ∨ (g.1 = 0 ∧ 0 < acc.length)) : runsO K (n + 1) s a acc = (3, []) := by
  subst h1 h2
  rw [runsO, if_neg (by omega), if_pos h3]
theorem runsO_step (h1 : s.number (K - a) = g) (h2 : g.2.number (K - (a + g.1)) = z) (h : z.2.e = 0) (h3 : ¬ (z.1 = 0 ∨ (g.1 = 0 ∧ 0 < acc.length))) : runsO K (n + 1) s a acc = runsO K n z.2 (a + g.1 + z.1) (acc ++ [(a + g.1, a + g.1 + z.1)]) := by
  subst h1 h2
  rw [runsO, if_neg (by omega), if_neg h3]
end
/-- A slice of runs. -/
def runS (o : Option Nat) (n : Nat) : Value := match o with
  | none => .slice none 0 0
  | some id => .slice (some ⟨id, 0, none⟩) n capU
def runI (T : TypeId) (H H' : Hp) (o : Option Nat) (acc : List (Nat × Nat)) : Prop := match o with
  | none => acc = []
  | some id => 0 < acc.length ∧ H.length ≤ id ∧ H'.at id = some ⟨T, 2, runV acc, true⟩
theorem runV_no {l : List (Nat × Nat)} (h : 0 < l.length) : allU8 (runV l) = false := by
  cases l with
  | nil => exact absurd h (Nat.lt_irrefl 0)
  | cons r l => rfl
/-- A block that holds other than bytes is gone. -/
theorem bs_kno {H : Hp} {j : Nat} {b : Blk} {v : Value} {L : List UInt8} (h : BS H v L) (hb : H.at j = some b) (hno : allU8 b.cs = false) : BS (H.kill j) v L := by
  cases h with
  | none => exact .none
  | some hb2 hs hl ho hu =>
    refine .some ((Hp.at_kill_ne ?_).trans hb2) hs hl ho hu
    rintro rfl
    rw [hb] at hb2
    injection hb2 with hb2
    subst hb2
    rw [hu] at hno
    cases hno
theorem rg_kno {H : Hp} {T : TypeId} {g j : Nat} {p : Option Addr} {c : Nat} {s : RdS} {b : Blk} (h : RG T H g p c s) (hb : H.at j = some b) (hne : j ≠ g) (hno : allU8 b.cs = false) : RG T (H.kill j) g p c s := ⟨(Hp.at_kill_ne hne).trans h.hg, bs_kno h.hb hb hno, h.hl⟩
theorem e_zero {s : RdS} {m : Nat} (h : (s.number m).1 ≠ 0) : (s.number m).2.e = 0 ∧ s.e = 0 := by
  unfold RdS.number at h ⊢
  split at h
  · exact absurd rfl h
  · rename_i h1
    rw [if_neg h1]
    split at h
    · exact absurd rfl h
    · rename_i h2
      rw [if_neg h2]
      split at h
      · exact absurd rfl h
      · rename_i h3
        rw [if_neg h3]
        exact ⟨rfl, by omega⟩
end Go.Proofs.Ytcbngjpihcemiaa
