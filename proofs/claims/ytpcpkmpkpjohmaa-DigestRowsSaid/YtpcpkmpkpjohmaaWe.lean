/- Words for memory, more: a copy of bytes by 'append([]byte{}, b...)'; the shape of what is owned. -/
import Derived.Test.YtpcpkmpkpjohmaaWd
namespace Go.Proofs.Ytpcpkmpkpjohmaa
open Go.RowKit

theorem own_shape {w : World} {base size n : Nat} {e : TypeId} {v : Value} {xs : List Value} (h : w.ownsRow base e size v n xs) (hn : n ≤ maxLen) :
    ∃ A c, v = .slice A n c ∧ n ≤ c ∧ c ≤ maxLen ∧ (A = none → n = 0 ∧ c = 0) ∧ Rd w w.heap.size A xs := by
  have h2 := h.2
  rcases h2 with ⟨rfl, rfl⟩ | ⟨g, cap, cur, rfl, _, _, hn, hm, _⟩
  · exact ⟨none, 0, rfl, Nat.le_refl _, hn, fun _ => ⟨rfl, rfl⟩, Rd.of_own h⟩
  · exact ⟨_, cap, rfl, hn, hm, (fun h => by cases h), Rd.of_own h⟩

theorem app_shape {w : World} {base size n : Nat} {e : TypeId} {v : Value} {xs : List Value} (h : App w base e size v n xs) (hn : n ≤ maxLen) :
    ∃ A c, v = .slice A n c ∧ n ≤ c ∧ c ≤ maxLen ∧ (A = none → n = 0) ∧ Rd w w.heap.size A xs := by
  rcases h with h | ⟨_, A, rfl, hA, hr⟩
  · obtain ⟨A, c, h1, h2, h3, h4, h5⟩ := own_shape h hn
    exact ⟨A, c, h1, h2, h3, fun h => (h4 h).1, h5⟩
  · exact ⟨A, n, rfl, Nat.le_refl _, hn, hA, hr⟩

/-- What a copy leaves. -/
structure Cpy (w w' : World) (e : TypeId) (A : Option Addr) (n c : Nat) (l : List UInt8) : Prop where
  own : w'.ownsRow w.heap.size e 1 (.slice A n c) n (vb l)
  cap : n ≤ c
  max : c ≤ maxLen
  nil : A = none → n = 0 ∧ c = 0
  rd : Rd w' w'.heap.size A (vb l)
  below : Below w.heap.size w w'

section
variable {P : Program} (w : World)
theorem wpList_copy_bytes {ops : Array Oper} {rest : List Oper} {o : Oper} {a : Act} {Q : Exit → Act → World → Prop} (hgd : o.guard = none) (s x : Operand) (t : TypeId)
    (ho : o.op = .call { callee := .builtin .append, args := #[s, x], argTypes := #[t, t] })
    (e : TypeId) (z : Value) (he : Elm P t e z 1 1) (hs : a.eval s = .slice (some ⟨w.heap.size, 0, none⟩) 0 0)
    (A : Option Addr) (m c : Nat) (l : List UInt8) (hx : a.eval x = .slice A m c) (hm : l.length = m) (hr : Rd w w.heap.size A (vb l)) (hsz : m ≤ 140737488355328)
    (h : ∀ A' c' w', Cpy w w' e A' m c' l → wpList P ops Q rest (a.put o.dst (.slice A' m c')) w') :
    wpList P ops Q (o :: rest) a (w.alloc (.cells #[] e)) := by
  have hown : (w.alloc (.cells #[] e)).ownsRow w.heap.size e 1 (.slice (some ⟨w.heap.size, 0, none⟩) 0 0) 0 [] := World.ownsRow_made w #[] 0 (Nat.le_refl _) (by simp [maxLen]) rfl
  refine wpList_append_app _ hgd s x t ho w.heap.size e z 1 1 he _ 0 [] hs (.inl hown) _ A m c (vb l) hx (by rw [vb_length]; omega) (hr.alloc_ _) (vb_one _) (by simp only [maxLen]; omega) (by omega) (by simp) fun v' w' hA => ?_
  have ho' : w'.ownsRow w.heap.size e 1 v' m (vb l) := by simpa using hA.own (.inr hown)
  obtain ⟨A', c', rfl, h1, h2, h3, h4⟩ := own_shape ho' (by simp only [maxLen]; omega)
  exact h A' c' w' ⟨ho', h1, h2, h3, h4, (below_al (Below.refl _ _) _).trans hA.below⟩
end
end Go.Proofs.Ytpcpkmpkpjohmaa
