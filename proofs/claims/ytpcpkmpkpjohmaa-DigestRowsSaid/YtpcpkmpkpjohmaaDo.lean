/- Plain: the digests of pieces, joined and cut. -/
import Derived.Test.YtpcpkmpkpjohmaaDm
namespace Go.Proofs.Ytpcpkmpkpjohmaa

/-- The digest of bytes. -/
def digOf (l : List UInt8) : DgS := ⟨l.length, ofN 0 l⟩
theorem digOf_nil : digOf [] = ⟨0, 0⟩ := rfl
theorem ofN_from' (s : Nat) (hs : s < PR) : ∀ (n : Nat) (l : List UInt8), l.length = n → ofN s l = (s * powN 1000003 l.length % PR + ofN 0 l) % PR
  | 0, l, h => by
    obtain rfl := List.eq_nil_of_length_eq_zero h
    show s = _
    rw [List.length_nil, powN_zero, Nat.mul_one, Nat.mod_eq_of_lt hs]
    show s = (s + 0) % PR
    rw [Nat.add_zero, Nat.mod_eq_of_lt hs]
  | n + 1, l, h => by
    rcases List.eq_nil_or_concat l with rfl | ⟨l', c, rfl⟩
    · cases h
    · rw [List.concat_eq_append] at h ⊢
      rw [ofN_snoc, ofN_snoc, ofN_from' s hs n l' (by simpa using h), List.length_append]
      unfold stepN powN
      have e1 : s * (1000003 ^ (l'.length + [c].length) % PR) % PR = s * (1000003 ^ l'.length % PR) * 1000003 % PR := by
        rw [List.length_singleton, Nat.pow_succ, Nat.mul_mod_mod, ← Nat.mul_assoc, Nat.mul_mod (s * 1000003 ^ l'.length) 1000003, ← Nat.mul_mod_mod s (1000003 ^ l'.length) PR, ← Nat.mul_mod]
      rw [e1]
      generalize s * (1000003 ^ l'.length % PR) = X
      generalize ofN 0 l' = Y
      generalize c.toNat = z
      unfold PR
      omega
theorem ofN_from (s : Nat) (l : List UInt8) (hs : s < PR) : ofN s l = (s * powN 1000003 l.length % PR + ofN 0 l) % PR := ofN_from' s hs _ l rfl
theorem ofN_append (x y : List UInt8) : ofN 0 (x ++ y) = (ofN 0 x * powN 1000003 y.length % PR + ofN 0 y) % PR := by
  rw [← ofN_from _ _ (ofN_lt x)]
  unfold ofN
  rw [List.foldl_append]
theorem digOf_append (x y : List UInt8) (h : x.length + y.length < 18446744073709551616) : digOf (x ++ y) = joinN (digOf x) (digOf y) := by
  unfold digOf joinN
  simp only
  rw [ofN_append, List.length_append, Nat.mod_eq_of_lt h]
theorem digOf_join' : ∀ (n : Nat) (ls : List (List UInt8)), ls.length = n → ls.flatten.length < 18446744073709551616 → joinL ⟨0, 0⟩ (ls.map digOf) = digOf ls.flatten
  | 0, ls, h, _ => by
    obtain rfl := List.eq_nil_of_length_eq_zero h
    rfl
  | n + 1, ls, hn, h => by
    rcases List.eq_nil_or_concat ls with rfl | ⟨l', c, rfl⟩
    · rfl
    · rw [List.concat_eq_append] at h hn ⊢
      rw [List.map_append, List.map_cons, List.map_nil, joinL_snoc, List.flatten_append]
      rw [List.flatten_append, List.length_append] at h
      have e : [c].flatten = c := by simp
      rw [e] at h ⊢
      rw [digOf_join' n l' (by simpa using hn) (by omega), digOf_append _ _ h]
theorem digOf_join (ls : List (List UInt8)) (h : ls.flatten.length < 18446744073709551616) : joinL ⟨0, 0⟩ (ls.map digOf) = digOf ls.flatten := digOf_join' _ ls rfl h
theorem digOf_cut (x y : List UInt8) (_h : x.length + y.length < 18446744073709551616) : cutN (digOf (x ++ y)) (digOf x) = digOf y := by
  unfold digOf cutN
  simp only
  rw [ofN_append, List.length_append, Nat.add_sub_cancel_left]
  have h1 := ofN_lt y
  generalize ofN 0 y = Y at *
  have h2 : ofN 0 x * powN 1000003 y.length % PR < PR := Nat.mod_lt _ PR_pos
  generalize ofN 0 x * powN 1000003 y.length % PR = X at *
  congr 1
  unfold PR at *
  omega
theorem digOf_lt (l : List UInt8) : (digOf l).sum < PR := ofN_lt l
end Go.Proofs.Ytpcpkmpkpjohmaa
