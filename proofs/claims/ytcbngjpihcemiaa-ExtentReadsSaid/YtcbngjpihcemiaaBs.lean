/- Bytes in a slice, whatever slice it is. Over any program. -/
import Derived.Test.YtcbngjpihcemiaaGm
namespace Go.Proofs.Ytcbngjpihcemiaa
open Go.RowKit

/-- Bytes, and nothing else. -/
def allU8 : List Value → Bool
  | [] => true
  | .int .u8 _ :: l => allU8 l
  | _ => false
theorem allU8_vb : ∀ L : List UInt8, allU8 (vb L) = true
  | [] => rfl
  | _ :: L => allU8_vb L
theorem allU8_made (n : Nat) : allU8 (gmade [.int .u8 0] n) = true := by
  induction n with
  | zero => rfl
  | succ n ih => exact ih
/-- Bytes in a slice. -/
inductive BS (H : Hp) : Value → List UInt8 → Prop
  | none : BS H (.slice none 0 0) []
  | some {j off n c : Nat} {t : TypeId} {rw : Bool} {cs : List Value} {L : List UInt8} (hb : H.at j = some ⟨t, 1, cs, rw⟩) (hs : (cs.drop off).take n = vb L) (hl : L.length = n) (ho : off + n ≤ cs.length) (hu : allU8 cs = true) : BS H (.slice (some ⟨j, off, none⟩) n c) L
section
variable {H H' : Hp} {L : List UInt8} {p : Option Addr} {n c : Nat}
theorem BS.len (h : BS H (.slice p n c) L) : L.length = n := by
  cases h with
  | none => rfl
  | some _ _ hl _ _ => exact hl
theorem BS.is {v : Value} (h : BS H v L) : ∃ p c, v = .slice p L.length c := by
  cases h with
  | none => exact ⟨_, _, rfl⟩
  | some _ _ hl _ _ => subst hl; exact ⟨_, _, rfl⟩
theorem BS.ext {v : Value} (h : BS H v L) (k : HExt [] H H') : BS H' v L := by
  cases h with
  | none => exact .none
  | some hb hs hl ho hu => exact .some ((k.eq _ (Hp.at_lt hb) (by intro h; cases h)).trans hb) hs hl ho hu
theorem bs_push {j : Nat} {t : TypeId} {L : List UInt8} {c m : Nat} (hj : j = H.length) (hm : m = L.length) : BS (Hp.push H (Blk.mk t 1 (vb L) true)) (.slice (some ⟨j, 0, none⟩) m c) L := by
  subst hm
  exact .some (Hp.at_push_id hj) (by rw [List.drop_zero]; exact List.take_of_length_le (by simp)) rfl (by simp) (allU8_vb L)
end
section
variable {P : Program} {T : Tab} {o : Oper} {env : Env} {H : Hp} {x y : Operand} {t : TypeId} {i : TyI}
theorem grd_strBS {p : Option Addr} {n c : Nat} {L : List UInt8} {src dst e z by_ : Nat} {zr : List Value} {i2 i3 : TyI} (hT : T.ok P) (ho : o.op = .convert src dst x) (ht : T src = some i) (hd : i.d = .slice e z by_ zr) (hte : T e = some i3) (hde : i3.d = .int .u8) (ht2 : T dst = some i2) (hd2 : i2.d = .str)
    (hx : geval env x = some (.slice p n c)) (hb : BS H (.slice p n c) L) : ∃ Ts, GRd P o env H (.string ⟨L.toArray⟩) Ts := by
  cases hb with
  | none => exact ⟨_, grd_str0 hT ho ht hd hte hde ht2 hd2 hx⟩
  | some hb hs hl h1 _ => exact ⟨_, grd_str hT ho ht hd hte hde ht2 hd2 hx hb hs hl⟩
theorem vr_cap {μ : Ren} {a : Addr} {n c : Nat} {rv : Value} (h : VR μ (.slice (some a) n c) rv) (hc : c < capU) : n ≤ c := by
  cases h with
  | sl hL hn hm hcc hu ha => rw [← hcc hc]; exact hn
/-- A part of a slice of bytes. -/
theorem grd_slBS {p : Option Addr} {n c e by_ l h m2 : Nat} {zr : List Value} {lo hi : Option Operand} {L M : List UInt8} (hT : T.ok P) (ho : o.op = .slice t x lo hi none) (ht : T t = some i) (hd : i.d = .slice e 1 by_ zr) (hx : geval env x = some (.slice p n c)) (hb : BS H (.slice p n c) L)
    (hl : gbound env lo 0 l) (hh : gbound env hi n h) (h1 : l ≤ h) (h2 : h ≤ n) (em : h - l = m2) (eM : (L.drop l).take m2 = M) : ∃ p' c', (∃ Ts, GRd P o env H (.slice p' m2 c') Ts) ∧ BS H (.slice p' m2 c') M := by
  subst em eM
  cases hb with
  | none =>
    obtain rfl : h = 0 := by omega
    obtain rfl : l = 0 := by omega
    exact ⟨none, 0, ⟨[], grd_slice0 hT ho ht hd hx hl hh rfl (by intro h; cases h)⟩, .none⟩
  | some hb hs hln hof hu =>
    rename_i j off t2 rw cs
    have hcells : (cs.drop (off + l * 1)).take (h - l) = vb ((L.drop l).take (h - l)) := by
      have e1 : (cs.drop (off + l)).take (h - l) = (((cs.drop off).take n).drop l).take (h - l) := by
        rw [List.drop_take, List.take_take, Nat.min_eq_left (by omega), List.drop_drop]
      rw [Nat.mul_one, e1, hs, vb_take, vb_drop]
    have hlen2 : ((L.drop l).take (h - l)).length = h - l := by rw [List.length_take, List.length_drop]; omega
    rcases Nat.lt_or_ge c capU with hc | hc
    · exact ⟨some ⟨j, off + l * 1, none⟩, c - l, ⟨[], fun μ N a w hs' he => by
        have := vr_cap (he.eval hx) hc
        exact grd_slice hT ho ht hd hx hl hh rfl (by intro h; cases h) h1 (by omega) (Nat.le_refl _) hc μ N a w hs' he⟩, .some hb hcells hlen2 (by omega) hu⟩
    · exact ⟨some ⟨j, off + l * 1, none⟩, capU, ⟨_, grd_sliceU hT ho ht hd hx hl hh h1 h2 hc hb rfl⟩, .some hb hcells hlen2 (by omega) hu⟩
theorem grd_slBSm {p : Option Addr} {n c e by_ l h m q m2 : Nat} {zr : List Value} {lo hi : Option Operand} {mx : Operand} {L M : List UInt8} (hT : T.ok P) (ho : o.op = .slice t x lo hi (some mx)) (ht : T t = some i) (hd : i.d = .slice e 1 by_ zr) (hx : geval env x = some (.slice p n c)) (hb : BS H (.slice p n c) L)
    (hl : gbound env lo 0 l) (hh : gbound env hi n h) (hm : gbound env (some mx) q m) (hhi : hi.isSome = true) (h1 : l ≤ h) (h2 : h ≤ m) (h3 : m ≤ n) (em : h - l = m2) (eM : (L.drop l).take m2 = M) : ∃ p' c', (∃ Ts, GRd P o env H (.slice p' m2 c') Ts) ∧ BS H (.slice p' m2 c') M := by
  subst em eM
  cases hb with
  | none =>
    obtain rfl : m = 0 := by omega
    obtain rfl : h = 0 := by omega
    obtain rfl : l = 0 := by omega
    exact ⟨none, 0, ⟨[], grd_slice0 hT ho ht hd hx hl hh hm (fun _ => hhi)⟩, .none⟩
  | some hb hs hln hof hu =>
    rename_i j off t2 rw cs
    have hcells : (cs.drop (off + l * 1)).take (h - l) = vb ((L.drop l).take (h - l)) := by
      have e1 : (cs.drop (off + l)).take (h - l) = (((cs.drop off).take n).drop l).take (h - l) := by
        rw [List.drop_take, List.take_take, Nat.min_eq_left (by omega), List.drop_drop]
      rw [Nat.mul_one, e1, hs, vb_take, vb_drop]
    have hlen2 : ((L.drop l).take (h - l)).length = h - l := by rw [List.length_take, List.length_drop]; omega
    rcases Nat.lt_or_ge c capU with hc | hc
    · exact ⟨some ⟨j, off + l * 1, none⟩, m - l, ⟨[], fun μ N a w hs' he => by
        have := vr_cap (he.eval hx) hc
        exact grd_slice hT ho ht hd hx hl hh hm (fun _ => hhi) h1 h2 (by omega) hc μ N a w hs' he⟩, .some hb hcells hlen2 (by omega) hu⟩
    · exact ⟨some ⟨j, off + l * 1, none⟩, m - l, ⟨_, grd_sliceUmax hT ho ht hd hx hl hh hm hhi h1 h2 h3⟩, .some hb hcells hlen2 (by omega) hu⟩
/-- The room behind a part of a slice. -/
def capS (c l : Nat) : Nat := if capU ≤ c then capU else c - l
theorem grd_slL {j off n c e by_ l h o2 m2 : Nat} {b : Blk} {zr : List Value} {lo hi : Option Operand} (hT : T.ok P) (ho : o.op = .slice t x lo hi none) (ht : T t = some i) (hd : i.d = .slice e 1 by_ zr) (hx : geval env x = some (.slice (some ⟨j, off, none⟩) n c)) (hb : H.at j = some b) (hz : b.z = 1)
    (hl : gbound env lo 0 l) (hh : gbound env hi n h) (h1 : l ≤ h) (h2 : h ≤ n) (eo : off + l = o2) (em : h - l = m2) : GRd P o env H (.slice (some ⟨j, o2, none⟩) m2 (capS c l)) [] := by
  subst em eo
  unfold capS
  rcases Nat.lt_or_ge c capU with hc | hc
  · rw [if_neg (by omega)]
    intro μ N a w hs' he
    have := vr_cap (he.eval hx) hc
    have hg := grd_slice (H := H) hT ho ht hd hx hl hh rfl (by intro h; cases h) h1 (by omega) (Nat.le_refl _) hc
    rw [Nat.mul_one] at hg
    exact hg μ N a w hs' he
  · rw [if_pos hc]
    have hg := grd_sliceU hT ho ht hd hx hl hh h1 h2 hc hb hz
    rw [Nat.mul_one] at hg
    exact hg
theorem bs_subE {j off o2 n c m2 c2 l : Nat} {L M : List UInt8} (h : BS H (.slice (some ⟨j, off, none⟩) n c) L) (eo : o2 = off + l) (hl : l + m2 ≤ n) (eM : (L.drop l).take m2 = M) : BS H (.slice (some ⟨j, o2, none⟩) m2 c2) M := by
  subst eo eM
  cases h with
  | some hb hs hln hof hu =>
    rename_i t2 rw2 cs2
    refine .some hb ?_ (by rw [List.length_take, List.length_drop]; omega) (by omega) hu
    have e1 : (cs2.drop (off + l)).take m2 = (((cs2.drop off).take n).drop l).take m2 := by
      rw [List.drop_take, List.take_take, Nat.min_eq_left (by omega), List.drop_drop]
    rw [e1, hs, vb_take, vb_drop]
/-- The address of a byte. -/
def ptrA (p : Option Addr) (i : Nat) : Value := .pointer (p.map fun a => ⟨a.block, a.off + i, none⟩)
theorem grd_indexBS {p : Option Addr} {n c e by_ q : Nat} {zr : List Value} {k : IntKind} {m : Int} {L : List UInt8} (hT : T.ok P) (ho : o.op = .indexAddr t x y) (ht : T t = some i) (hd : i.d = .slice e 1 by_ zr) (hx : geval env x = some (.slice p n c)) (hy : geval env y = some (.int k m)) (hb : BS H (.slice p n c) L) (hm : m = (q : Int)) (h1 : q < n) : GRd P o env H (ptrA p q) [] := by
  subst hm
  cases hb with
  | none => omega
  | some hb hs hln hof hu =>
    have := grd_indexAddr (H := H) hT ho ht hd hx hy (by omega) (by omega)
    simpa [ptrA] using this
theorem grd_loadBS {p : Option Addr} {n c q : Nat} {L : List UInt8} (hT : T.ok P) (ho : o.op = .load t x) (ht : T t = some i) (ha : i.agg = false) (hx : geval env x = some (ptrA p q)) (hb : BS H (.slice p n c) L) (h1 : q < n) : ∃ Ts, GRd P o env H (.int .u8 ((L.getD q 0).toNat : Int)) Ts := by
  cases hb with
  | none => omega
  | some hb hs hln hof hu =>
    rename_i j off t2 rw cs
    refine ⟨_, grd_load1 (b := ⟨t2, 1, cs, rw⟩) hT ho ht ha hx hb ?_⟩
    have e : (vb L)[q]? = some (.int .u8 ((L.getD q 0).toNat : Int)) := by
      have hq : q < L.length := by omega
      simp [vb, List.getElem?_eq_getElem hq]
    rw [← hs, List.getElem?_take, if_pos h1, List.getElem?_drop] at e
    exact e
theorem grd_loadBSK {p : Option Addr} {n c q : Nat} {L : List UInt8} {u : UInt8} (hT : T.ok P) (ho : o.op = .load t x) (ht : T t = some i) (ha : i.agg = false) (hx : geval env x = some (ptrA p q)) (hb : BS H (.slice p n c) L) (h1 : q < n) (e : L.getD q 0 = u) : ∃ Ts, GRd P o env H (.int .u8 (u.toNat : Int)) Ts := by
  subst e
  exact grd_loadBS hT ho ht ha hx hb h1
theorem gsrc_bs {p : Option Addr} {m c e by_ : Nat} {zr' zr : List Value} {M : List UInt8} {xt : TypeId} (ht : T xt = some i) (hd : i.d = .slice e 1 by_ zr') (hx : geval env y = some (.slice p m c)) (hb : BS H (.slice p m c) M) : GSrc T env H y xt 1 zr m (vb M) := by
  cases hb with
  | none => exact .nil ht hd hx
  | some hb hs hln hof hu =>
    have := GSrc.slice (z := 1) (zr := zr) ht hd hx hb (by simpa using hof)
    simp only [Nat.mul_one] at this
    rw [hs] at this
    exact this
theorem bs_empty {j off c : Nat} {b : Blk} (hb : H.at j = some b) (hz : b.z = 1) (ho : off ≤ b.cs.length) (hu : allU8 b.cs = true) : BS H (.slice (some ⟨j, off, none⟩) 0 c) [] := by
  obtain ⟨t, z, cs, rw⟩ := b
  simp only at hz
  subst hz
  exact .some hb (by simp [vb]) rfl (by simpa using ho) hu
theorem bs_emptyE {j off c : Nat} {b : Blk} {L : List UInt8} (hb : H.at j = some b) (hz : b.z = 1) (ho : off ≤ b.cs.length) (hu : allU8 b.cs = true) (hL : L = []) : BS H (.slice (some ⟨j, off, none⟩) 0 c) L := by
  subst hL
  exact bs_empty hb hz ho hu
theorem bs_blk {j off n c : Nat} {b : Blk} {L : List UInt8} (hb : H.at j = some b) (hz : b.z = 1) (hs : (b.cs.drop off).take n = vb L) (hl : L.length = n) (ho : off + n ≤ b.cs.length) (hu : allU8 b.cs = true) : BS H (.slice (some ⟨j, off, none⟩) n c) L := by
  obtain ⟨t, z, cs, rw⟩ := b
  simp only at hz
  subst hz
  exact .some hb hs hl ho hu
section
variable {C : Ctx} {xt : TypeId}
/-- Bytes behind a slice that has no room: a new one. -/
theorem gop_fullB {p : Option Addr} {n c m e by_ id : Nat} {zr : List Value} {L M K : List UInt8} (hid : H.length = id) (hT : T.ok P) (ho : o.op = .call { callee := .builtin .append, args := #[x, y], argTypes := #[t, xt] }) (ht : T t = some i) (hd : i.d = .slice e 1 by_ zr) (hx : geval env x = some (.slice p n c)) (hb : BS H (.slice p n c) L) (hc : c < capU) (hcm : c < n + m)
    (hsrc : GSrc T env H y xt 1 zr m (vb M)) (hlM : M.length = m) (hK : L ++ M = K) (hsz : (n + m) * by_ ≤ 140737488355328) (hn : n + m ≤ 140737488355328) :
    GOp P C o env H (fun u H' => u = .slice (some ⟨id, 0, none⟩) (n + m) capU ∧ H' = H.push ⟨e, 1, vb K, true⟩) := by
  subst hid hK
  cases hb with
  | none =>
    have := gop_app_nil (C := C) hT ho ht hd (Nat.lt_succ_self 0) hx hsrc (by simp [hlM]) (by omega) (by simpa using hsz) (by omega)
    simpa using this
  | some hb hs hl hof hu =>
    have := gop_app_full (C := C) hT ho ht hd (Nat.lt_succ_self 0) hx hc hcm hb (by simpa using hof) hsrc (by simp [hlM]) hsz hn
    simp only [Nat.mul_one] at this
    rw [hs, ← vb_append] at this
    exact this
/-- Bytes behind a slice of its own. -/
theorem gop_ownB {j n m e by_ id : Nat} {b : Blk} {zr : List Value} {L M K : List UInt8} (hid : H.length = id) (hT : T.ok P) (ho : o.op = .call { callee := .builtin .append, args := #[x, y], argTypes := #[t, xt] }) (ht : T t = some i) (hd : i.d = .slice e 1 by_ zr) (hx : geval env x = some (.slice (some ⟨j, 0, none⟩) n capU)) (hb : H.at j = some b) (hcs : b.cs = vb L) (hbz : b.z = 1) (hrw : b.rw = true) (hL : L.length = n) (hn0 : 0 < n) (hm : C.may j)
    (hsrc : GSrc T env H y xt 1 zr m (vb M)) (hlM : M.length = m) (hK : L ++ M = K) (hsz : (n + m) * by_ ≤ 140737488355328) (hn : n + m ≤ 140737488355328) :
    GOp P C o env H (fun u H' => u = .slice (some ⟨id, 0, none⟩) (n + m) capU ∧ H' = (H.kill j).push ⟨e, 1, vb K, true⟩) := by
  subst hid hK
  have := gop_app_own (C := C) hT ho ht hd (Nat.lt_succ_self 0) hx (Nat.le_refl _) hb hrw hbz hm (by rw [hcs, vb_length]; omega) hn0 hsrc (by simp [hlM]) hsz hn
  rw [hcs, List.drop_zero, List.take_of_length_le (by rw [vb_length]; omega), ← vb_append] at this
  exact this
/-- Nothing behind a slice. -/
theorem gop_zeroB {p : Option Addr} {n c m e by_ : Nat} {zr : List Value} {L M : List UInt8} (hT : T.ok P) (ho : o.op = .call { callee := .builtin .append, args := #[x, y], argTypes := #[t, xt] }) (ht : T t = some i) (hd : i.d = .slice e 1 by_ zr) (hx : geval env x = some (.slice p n c)) (hb : BS H (.slice p n c) L) (hm : m = 0)
    (hsrc : GSrc T env H y xt 1 zr m (vb M)) (hlM : M.length = m) (hsz : n * by_ ≤ 140737488355328) (hn : n ≤ 140737488355328) :
    GOp P C o env H (fun u H' => u = .slice p n c ∧ H' = H) := by
  subst hm
  cases hb with
  | none => exact gop_app_00 hT ho ht hd hx hsrc
  | some hb hs hl hof hu => exact gop_app_zero hT ho ht hd (Nat.lt_succ_self 0) hx hsrc (by simp [hlM]) hsz hn
end
section
variable {N : Nat} {C : Ctx} {Q : Exit → Env → Hp → Prop} {ops : Array Oper} {tl : Bool} {Prt : List Nat} {rest : List Oper} {Kg : Env → Prop}
/-- A slice whose place is not known. -/
theorem gops_bs {b : Bool} {d m : Nat} {M : List UInt8} (hw : gwant ops env o = some b) (hb : b = true) (hd : o.dst = some d) (hN : Nat.blt d N = true) (h : ∃ p c, (∃ Ts, GRd P o env H (.slice p m c) Ts) ∧ BS H (.slice p m c) M) (k : ∀ p c, BS H (.slice p m c) M → GOps P N C ops Q rest ((d, .slice p m c) :: env) H) : GOps P N C ops Q (o :: rest) env H := by
  obtain ⟨p, c, ⟨T, h⟩, h2⟩ := h
  exact GOps.r hw hb hd hN h (k p c h2)
theorem gq_bs {b : Bool} {d m : Nat} {M : List UInt8} (hw : gwant ops env o = some b) (hb : b = true) (hd : o.dst = some d) (hN : Nat.blt d N = true) (h : ∃ p c, (∃ Ts, GRd P o env H (.slice p m c) Ts) ∧ BS H (.slice p m c) M) (hT : tl = true) (k : ∀ p c, BS H (.slice p m c) M → GQ P N C ops tl Prt Kg rest ((d, .slice p m c) :: env) H) : GQ P N C ops tl Prt Kg (o :: rest) env H := by
  obtain ⟨p, c, ⟨T, h⟩, h2⟩ := h
  exact GQ.r hw hb hd hN h (.inl hT) (k p c h2)
end
theorem gres_cellNK {env : Env} {H : Hp} {T : Tab} {s t j off : Nat} {i : TyI} {b : Blk} {cs : List Value} (h : env.get s = some (.pointer (some ⟨j, off, none⟩))) (ht : T t = some i) (ha : i.agg = true) (hb : H.at j = some b) (hn : off + i.size ≤ b.cs.length) (e : (b.cs.drop off).take i.size = cs) : GRes env H T [.cell s t] (.agg cs.toArray) := by
  subst e
  exact .cellN h ht ha hb hn
end
end Go.Proofs.Ytcbngjpihcemiaa
