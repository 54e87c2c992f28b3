/- The quick heap: tries, and what they stand for. -/
import Derived.Test.YtcbngjpihcemiaaGm
namespace Go.Proofs.Ytcbngjpihcemiaa
open Go.RowKit

/-- One of two. -/
noncomputable def bsel {β : Type} (b : Bool) (t f : β) : β := Bool.rec f t b
theorem beq_no {a b : Nat} (h : a ≠ b) : Nat.beq a b = false := by
  cases hb : Nat.beq a b with
  | true => exact absurd (Nat.eq_of_beq_eq_true hb) h
  | false => rfl
/-- A trie over numbers. -/
inductive Tr (α : Type) where
  | e
  | n (l : Tr α) (v : Option α) (r : Tr α)
namespace Tr
variable {α β : Type}
noncomputable def get (t : Tr α) : Nat → Option α :=
  Tr.rec (fun _ => none) (fun _ v _ gl gr k => Bool.rec (Bool.rec (gr (Nat.sub (Nat.div k (nat_lit 2)) (nat_lit 1))) (gl (Nat.div k (nat_lit 2))) (Nat.beq (Nat.mod k (nat_lit 2)) (nat_lit 1))) v (Nat.beq k (nat_lit 0))) t
noncomputable def setK (f : Nat) : Tr α → Nat → Option α → (Tr α → β) → β :=
  Nat.rec (fun t _ _ c => c t) (fun _ ih t => Tr.casesOn t
     (fun k a c => Bool.rec (Bool.rec (ih .e (Nat.sub (Nat.div k (nat_lit 2)) (nat_lit 1)) a fun r => c (.n .e none r)) (ih .e (Nat.div k (nat_lit 2)) a fun l => c (.n l none .e)) (Nat.beq (Nat.mod k (nat_lit 2)) (nat_lit 1))) (c (.n .e a .e)) (Nat.beq k (nat_lit 0)))
     (fun l v r k a c => Bool.rec (Bool.rec (ih r (Nat.sub (Nat.div k (nat_lit 2)) (nat_lit 1)) a fun r => c (.n l v r)) (ih l (Nat.div k (nat_lit 2)) a fun l => c (.n l v r)) (Nat.beq (Nat.mod k (nat_lit 2)) (nat_lit 1))) (c (.n l a r)) (Nat.beq k (nat_lit 0)))) f
noncomputable def set (t : Tr α) (k : Nat) (a : Option α) : Tr α := setK 64 t k a id
end Tr
section
variable {α β : Type}
theorem Tr.get_e (k : Nat) : (Tr.e : Tr α).get k = none := rfl
theorem Tr.get_n (l : Tr α) (v : Option α) (r : Tr α) (k : Nat) : (Tr.n l v r).get k = if k = 0 then v else if k % 2 = 1 then l.get (k / 2) else r.get (k / 2 - 1) := by
  show bsel (Nat.beq k 0) v (bsel (Nat.beq (k % 2) 1) (l.get (k / 2)) (r.get (k / 2 - 1))) = _
  by_cases h : k = 0
  · subst h; rfl
  · have h1 : Nat.beq k 0 = false := beq_no h
    rw [h1, if_neg h]
    by_cases h2 : k % 2 = 1
    · rw [h2]; rfl
    · have h3 : Nat.beq (k % 2) 1 = false := beq_no h2
      rw [h3, if_neg h2]; rfl
/-- Sets, without the continuation. -/
def Tr.put : Nat → Tr α → Nat → Option α → Tr α
  | 0, t, _, _ => t
  | f + 1, .e, k, a => if k = 0 then .n .e a .e else if k % 2 = 1 then .n (Tr.put f .e (k / 2) a) none .e else .n .e none (Tr.put f .e (k / 2 - 1) a)
  | f + 1, .n l v r, k, a => if k = 0 then .n l a r else if k % 2 = 1 then .n (Tr.put f l (k / 2) a) v r else .n l v (Tr.put f r (k / 2 - 1) a)
theorem Tr.setK_eq : ∀ (f : Nat) (t : Tr α) (k : Nat) (a : Option α) (c : Tr α → β), Tr.setK f t k a c = c (Tr.put f t k a)
  | 0, _, _, _, _ => rfl
  | f + 1, .e, k, a, c => by
    show bsel (Nat.beq k 0) (c (.n .e a .e)) (bsel (Nat.beq (k % 2) 1) (Tr.setK f .e (k / 2) a fun l => c (.n l none .e)) (Tr.setK f .e (k / 2 - 1) a fun r => c (.n .e none r))) = _
    rw [Tr.setK_eq f, Tr.setK_eq f]
    by_cases h : k = 0
    · subst h; rfl
    · have h1 : Nat.beq k 0 = false := beq_no h
      rw [h1, Tr.put, if_neg h]
      by_cases h2 : k % 2 = 1
      · rw [h2]; rfl
      · have h3 : Nat.beq (k % 2) 1 = false := beq_no h2
        rw [h3, if_neg h2]; rfl
  | f + 1, .n l v r, k, a, c => by
    show bsel (Nat.beq k 0) (c (.n l a r)) (bsel (Nat.beq (k % 2) 1) (Tr.setK f l (k / 2) a fun l => c (.n l v r)) (Tr.setK f r (k / 2 - 1) a fun r => c (.n l v r))) = _
    rw [Tr.setK_eq f, Tr.setK_eq f]
    by_cases h : k = 0
    · subst h; rfl
    · have h1 : Nat.beq k 0 = false := beq_no h
      rw [h1, Tr.put, if_neg h]
      by_cases h2 : k % 2 = 1
      · rw [h2]; rfl
      · have h3 : Nat.beq (k % 2) 1 = false := beq_no h2
        rw [h3, if_neg h2]; rfl
theorem Tr.get_put : ∀ (f : Nat) (t : Tr α) (k j : Nat) (a : Option α), k < 2 ^ f - 1 → (Tr.put f t k a).get j = if j = k then a else t.get j
  | 0, _, k, _, _, h => by simp at h
  | f + 1, .e, k, j, a, h => by
    have h2 : 2 ^ (f + 1) = 2 * 2 ^ f := by rw [Nat.pow_succ, Nat.mul_comm]
    rw [Tr.put]
    by_cases e : k = 0
    · subst e
      rw [if_pos rfl, Tr.get_n]
      by_cases ej : j = 0
      · simp [ej]
      · simp [ej, Tr.get_e]
    · rw [if_neg e]
      by_cases o : k % 2 = 1
      · rw [if_pos o, Tr.get_n, Tr.get_put f _ _ _ _ (by omega), Tr.get_e, Tr.get_e, Tr.get_e]
        by_cases ej : j = k
        · subst ej; simp [e, o]
        · rw [if_neg ej]
          by_cases j0 : j = 0
          · simp [j0]
          · rw [if_neg j0]
            by_cases jo : j % 2 = 1
            · rw [if_pos jo, if_neg (by omega)]
            · rw [if_neg jo]
      · rw [if_neg o, Tr.get_n, Tr.get_put f _ _ _ _ (by omega), Tr.get_e, Tr.get_e, Tr.get_e]
        by_cases ej : j = k
        · subst ej; simp [e, o]
        · rw [if_neg ej]
          by_cases j0 : j = 0
          · simp [j0]
          · rw [if_neg j0]
            by_cases jo : j % 2 = 1
            · rw [if_pos jo]
            · rw [if_neg jo, if_neg (by omega)]
  | f + 1, .n l v r, k, j, a, h => by
    have h2 : 2 ^ (f + 1) = 2 * 2 ^ f := by rw [Nat.pow_succ, Nat.mul_comm]
    rw [Tr.put]
    by_cases e : k = 0
    · subst e
      rw [if_pos rfl, Tr.get_n, Tr.get_n]
      by_cases ej : j = 0
      · simp [ej]
      · simp [ej]
    · rw [if_neg e]
      by_cases o : k % 2 = 1
      · rw [if_pos o, Tr.get_n, Tr.get_put f _ _ _ _ (by omega), Tr.get_n]
        by_cases ej : j = k
        · subst ej; simp [e, o]
        · rw [if_neg ej]
          by_cases j0 : j = 0
          · simp [j0]
          · rw [if_neg j0, if_neg j0]
            by_cases jo : j % 2 = 1
            · rw [if_pos jo, if_pos jo, if_neg (by omega)]
            · rw [if_neg jo, if_neg jo]
      · rw [if_neg o, Tr.get_n, Tr.get_put f _ _ _ _ (by omega), Tr.get_n]
        by_cases ej : j = k
        · subst ej; simp [e, o]
        · rw [if_neg ej]
          by_cases j0 : j = 0
          · simp [j0]
          · rw [if_neg j0, if_neg j0]
            by_cases jo : j % 2 = 1
            · rw [if_pos jo, if_pos jo]
            · rw [if_neg jo, if_neg jo, if_neg (by omega)]
/-- So far a trie reaches. -/
def trMax : Nat := 18446744073709551615
theorem Tr.get_set {t : Tr α} {k j : Nat} {a : Option α} (h : k < trMax) : (Tr.put 64 t k a).get j = if j = k then a else t.get j := Tr.get_put 64 t k j a (by unfold trMax at h; omega)
end
/-- A number, reckoned out ahead. -/
noncomputable def fN {β : Type} (n : Nat) (c : Nat → β) : β := Nat.rec (c (nat_lit 0)) (fun n _ => c (Nat.succ n)) n
theorem fN_eq {β : Type} (n : Nat) (c : Nat → β) : fN n c = c n := by cases n <;> rfl
noncomputable def fI {β : Type} (n : Int) (c : Int → β) : β := Int.casesOn n (fun m => fN m fun m => c (.ofNat m)) (fun m => fN m fun m => c (.negSucc m))
theorem fI_eq {β : Type} (n : Int) (c : Int → β) : fI n c = c n := by
  cases n with
  | ofNat m => exact fN_eq m fun m => c (.ofNat m)
  | negSucc m => exact fN_eq m fun m => c (.negSucc m)
noncomputable def fB {β : Type} (b : Bool) (c : Bool → β) : β := Bool.rec (c false) (c true) b
theorem fB_eq {β : Type} (b : Bool) (c : Bool → β) : fB b c = c b := by cases b <;> rfl
/-- A value, reckoned out ahead. -/
noncomputable def fV {β : Type} (v : Value) (c : Value → β) : β := match v with
  | .int k n => fI n fun n => c (.int k n)
  | .bool b => fB b fun b => c (.bool b)
  | .slice (some ⟨g, o, none⟩) n m => fN g fun g => fN o fun o => fN n fun n => fN m fun m => c (.slice (some ⟨g, o, none⟩) n m)
  | .pointer (some ⟨g, o, none⟩) => fN g fun g => fN o fun o => c (.pointer (some ⟨g, o, none⟩))
  | v => c v
theorem fV_eq {β : Type} (v : Value) (c : Value → β) : fV v c = c v := by
  unfold fV
  split
  · exact fI_eq _ _
  · exact fB_eq _ _
  · rw [fN_eq, fN_eq, fN_eq, fN_eq]
  · rw [fN_eq, fN_eq]
  · rfl
/-- A value, its head reckoned out ahead. -/
noncomputable def fW {β : Type} (v : Value) (c : Value → β) : β := match v with
  | .int k n => c (.int k n)
  | .bool b => c (.bool b)
  | .string s => c (.string s)
  | .slice a n m => c (.slice a n m)
  | .pointer a => c (.pointer a)
  | v => c v
theorem fW_eq {β : Type} (v : Value) (c : Value → β) : fW v c = c v := by
  unfold fW
  split <;> rfl
end Go.Proofs.Ytcbngjpihcemiaa
