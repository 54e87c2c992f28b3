/- Bytes in a slice, whatever slice it is. Over any program. -/
import Derived.Test.YtjlimdiimdihfaaGm
namespace Go.Proofs.Ytjlimdiimdihfaa
open Go.RowKit

/-- Bytes in a slice. -/
inductive BS (H : Hp) : Value → List UInt8 → Prop
  | none : BS H (.slice none 0 0) []
  | some {j off n c : Nat} {t : TypeId} {rw : Bool} {cs : List Value} {L : List UInt8} (hb : H.at j = some ⟨t, 1, cs, rw⟩) (hs : (cs.drop off).take n = vb L) (hl : L.length = n) (ho : off + n ≤ cs.length) : BS H (.slice (some ⟨j, off, none⟩) n c) L
section
variable {H H' : Hp} {L : List UInt8} {p : Option Addr} {n c : Nat}
theorem BS.len (h : BS H (.slice p n c) L) : L.length = n := by
  cases h with
  | none => rfl
  | some _ _ hl _ => exact hl
theorem BS.is {v : Value} (h : BS H v L) : ∃ p c, v = .slice p L.length c := by
  cases h with
  | none => exact ⟨_, _, rfl⟩
  | some _ _ hl _ => subst hl; exact ⟨_, _, rfl⟩
theorem BS.ext {v : Value} (h : BS H v L) (k : HExt [] H H') : BS H' v L := by
  cases h with
  | none => exact .none
  | some hb hs hl ho => exact .some ((k.eq _ (Hp.at_lt hb) (by intro h; cases h)).trans hb) hs hl ho
theorem bs_push {j : Nat} {t : TypeId} {L : List UInt8} {c m : Nat} (hj : j = H.length) (hm : m = L.length) : BS (Hp.push H (Blk.mk t 1 (vb L) true)) (.slice (some ⟨j, 0, none⟩) m c) L := by
  subst hm
  exact .some (Hp.at_push_id hj) (by rw [List.drop_zero]; exact List.take_of_length_le (by simp)) rfl (by simp)
end
section
variable {P : Program} {T : Tab} {o : Oper} {env : Env} {H : Hp} {x y : Operand} {t : TypeId} {i : TyI}
theorem grd_strBS {p : Option Addr} {n c : Nat} {L : List UInt8} {src dst e z by_ : Nat} {zr : List Value} {i2 i3 : TyI} (hT : T.ok P) (ho : o.op = .convert src dst x) (ht : T src = some i) (hd : i.d = .slice e z by_ zr) (hte : T e = some i3) (hde : i3.d = .int .u8) (ht2 : T dst = some i2) (hd2 : i2.d = .str)
    (hx : geval env x = some (.slice p n c)) (hb : BS H (.slice p n c) L) : ∃ Ts, GRd P o env H (.string ⟨L.toArray⟩) Ts := by
  cases hb with
  | none => exact ⟨_, grd_str0 hT ho ht hd hte hde ht2 hd2 hx⟩
  | some hb hs hl h1 => exact ⟨_, grd_str hT ho ht hd hte hde ht2 hd2 hx hb hs hl⟩
theorem gres_cellNK {env : Env} {H : Hp} {T : Tab} {s t j off : Nat} {i : TyI} {b : Blk} {cs : List Value} (h : env.get s = some (.pointer (some ⟨j, off, none⟩))) (ht : T t = some i) (ha : i.agg = true) (hb : H.at j = some b) (hn : off + i.size ≤ b.cs.length) (e : (b.cs.drop off).take i.size = cs) : GRes env H T [.cell s t] (.agg cs.toArray) := by
  subst e
  exact .cellN h ht ha hb hn
end
end Go.Proofs.Ytjlimdiimdihfaa
