/- The ghost walk: a call met; contracts of the elder kind lifted. Over any program. -/
import Derived.Test.YtcbngjpihcemiaaGk
namespace Go.Proofs.Ytcbngjpihcemiaa
open Go.RowKit

section
variable {P : Program} {T : Tab} {C : Ctx} {o : Oper} {env : Env} {H : Hp}
theorem gop_call {f : FuncId} {xs : List Operand} {ts : Array TypeId} {vs : List Value} {F : List Nat} {R : Value → Hp → Prop} (ho : o.op = .call { callee := .value (.func f), args := xs.toArray, argTypes := ts }) (hc : ∀ (args : Array Value) (w : World), (callFunc f args).run P w = .ok (.enter f args) w) (hx : gargs env xs = some vs) (hm : ∀ i ∈ F, C.may i) (h : GCalls P f vs F H R) : GOp P C o env H R := fun N w0 Fr μ0 μ a w K Q hs he hk => by
  have hr := gargs_real he hx
  have hrun : (execOp a.eval o).run P w = .ok (.enter f (xs.map a.eval).toArray) w := by
    simp [execOp, ho, resolve, Deferred.ofValue, Act.eval, invoke, hc]
  unfold Oper.wp
  rw [hrun]
  show Calls P f _ w _
  refine (h μ w (xs.map a.eval).toArray hs.h (by simpa using hr)).mono ?_
  rintro e w' ⟨v, rv, H', μ', rfl, q2, q3, q4, q5, q6, q7, q8, q9⟩
  exact hk v rv H' w' μ' q2 (hs.called hm q4 q5 q6 q7 q8 q9) q5 q3
section
variable {x y : Operand} {t xt : TypeId} {i : TyI}
/-- Appends, the row behind under a name. -/
theorem gop_full {j off n c m e z by_ id : Nat} {b : Blk} {zr news : List Value} (cs : List Value) (hid : H.length = id) (hT : T.ok P) (ho : o.op = .call { callee := .builtin .append, args := #[x, y], argTypes := #[t, xt] }) (ht : T t = some i) (hd : i.d = .slice e z by_ zr) (hz0 : 0 < z) (hx : geval env x = some (.slice (some ⟨j, off, none⟩) n c)) (hc : c < capU) (hcm : c < n + m) (hb : H.at j = some b) (hol : off + n * z ≤ b.cs.length)
    (hsrc : GSrc T env H y xt z zr m news) (hnl : news.length = m * z) (hcs : (b.cs.drop off).take (n * z) ++ news = cs) (hsz : (n + m) * by_ ≤ 140737488355328) (hn : n + m ≤ 140737488355328) :
    GOp P C o env H (fun u H' => u = .slice (some ⟨id, 0, none⟩) (n + m) capU ∧ H' = H.push ⟨e, z, cs, true⟩) := by
  subst hcs hid
  exact gop_app_full hT ho ht hd hz0 hx hc hcm hb hol hsrc hnl hsz hn
theorem gop_own {j off n c m e z by_ id : Nat} {b : Blk} {zr news : List Value} (cs : List Value) (hid : H.length = id) (hT : T.ok P) (ho : o.op = .call { callee := .builtin .append, args := #[x, y], argTypes := #[t, xt] }) (ht : T t = some i) (hd : i.d = .slice e z by_ zr) (hz0 : 0 < z) (hx : geval env x = some (.slice (some ⟨j, off, none⟩) n c)) (hc : capU ≤ c)
    (hb : H.at j = some b) (hrw : b.rw = true) (hbz : b.z = z) (hm : C.may j) (hol : off + n * z ≤ b.cs.length) (hn0 : 0 < n)
    (hsrc : GSrc T env H y xt z zr m news) (hnl : news.length = m * z) (hcs : (b.cs.drop off).take (n * z) ++ news = cs) (hsz : (n + m) * by_ ≤ 140737488355328) (hn : n + m ≤ 140737488355328) :
    GOp P C o env H (fun u H' => u = .slice (some ⟨id, 0, none⟩) (n + m) capU ∧ H' = (H.kill j).push ⟨e, z, cs, true⟩) := by
  subst hcs hid
  exact gop_app_own hT ho ht hd hz0 hx hc hb hrw hbz hm hol hn0 hsrc hnl hsz hn
theorem gop_nil {m e z by_ id : Nat} {zr news : List Value} (cs : List Value) (hid : H.length = id) (hT : T.ok P) (ho : o.op = .call { callee := .builtin .append, args := #[x, y], argTypes := #[t, xt] }) (ht : T t = some i) (hd : i.d = .slice e z by_ zr) (hz0 : 0 < z) (hx : geval env x = some (.slice none 0 0))
    (hsrc : GSrc T env H y xt z zr m news) (hnl : news.length = m * z) (hcs : news = cs) (hm : 0 < m) (hsz : m * by_ ≤ 140737488355328) (hn : m ≤ 140737488355328) :
    GOp P C o env H (fun u H' => u = .slice (some ⟨id, 0, none⟩) m capU ∧ H' = H.push ⟨e, z, cs, true⟩) := by
  subst hcs hid
  exact gop_app_nil hT ho ht hd hz0 hx hsrc hnl hm hsz hn
theorem gop_alloc' {e id : Nat} (hid : H.length = id) (hT : T.ok P) (ho : o.op = .alloc e) (ht : T e = some i) (hz : i.zero ≠ []) : GOp P C o env H (fun u H' => u = .pointer (some ⟨id, 0, none⟩) ∧ H' = H.push ⟨e, 1, i.zero, true⟩) := by
  subst hid
  exact gop_alloc hT ho ht hz
theorem gop_box' {e id : Nat} {v : Value} (hid : H.length = id) (ho : o.op = .box e x) (hx : geval env x = some v) (h1 : v.cells.toList.all (·.oneCell') = true) : GOp P C o env H (fun u H' => u = .pointer (some ⟨id, 0, none⟩) ∧ H' = H.push ⟨e, 1, v.cells.toList, true⟩) := by
  subst hid
  exact gop_box ho hx h1
theorem gop_lit {ps : List (Nat × Operand)} {vs : List (Nat × Value)} {len e z by_ id : Nat} {zr cs : List Value} (hid : H.length = id) (hT : T.ok P) (ho : o.op = .buildSlice t len ps.toArray) (ht : T t = some i) (hd : i.d = .slice e z by_ zr) (hz : zr ≠ []) (hn : len * z ≤ 16777216) (hps : gparts env ps = some vs) (hf : gfill (fun k => some (k * z, z)) (gmade zr len) vs = some cs) (h1 : cs.all (·.oneCell') = true) :
    GOp P C o env H (fun u H' => u = .slice (some ⟨id, 0, none⟩) len len ∧ H' = H.push ⟨e, z, cs, true⟩) := by
  subst hid
  exact gop_buildSlice hT ho ht hd hz hn hps hf h1
theorem gop_make' {e z by_ l c id : Nat} {zr : List Value} {kl kc : IntKind} (hid : H.length = id) (hT : T.ok P) (ho : o.op = .makeSlice t x y) (ht : T t = some i) (hd : i.d = .slice e z by_ zr) (hx : geval env x = some (.int kl (l : Int))) (hy : geval env y = some (.int kc (c : Int))) (hlc : l ≤ c) (hb : by_ * c ≤ 281474976710656) (h63 : c ≤ maxLen) :
    GOp P C o env H (fun u H' => u = .slice (some ⟨id, 0, none⟩) l c ∧ H' = H.push ⟨e, z, gmade zr c, true⟩) := by
  subst hid
  exact gop_make hT ho ht hd hx hy hlc hb h63
end
/-- A contract of the elder kind, of a call that leaves all that was as it is, and hands back what bears no address of its own. -/
theorem GCalls.of {f : FuncId} {args : List Value} {R : Value → Prop} (h : ∀ μ w (rargs : Array Value), SimH μ H w → VRs μ args rargs.toList → Calls P f rargs w fun e w' => ∃ v rv, e = .returned rv ∧ R v ∧ VR μ v rv ∧ Below w.heap.size w w') : GCalls P f args [] H (fun v H' => R v ∧ H' = H) := fun μ w rargs hs hv =>
  (h μ w rargs hs hv).mono fun _ _ ⟨v, rv, q1, q2, q3, q4⟩ => ⟨v, rv, H, μ, q1, ⟨q2, rfl⟩, q3, hs.below q4, Ext'.refl μ, Frm.of_below q4 _, fun i L hi hL => by have := (hs.len i L hL).1; omega, Nat.le_refl _, fun _ _ _ h => h⟩
end
theorem wrap_i64_in {n : Int} (h : -9223372036854775808 ≤ n ∧ n ≤ 9223372036854775807) : IntKind.i64.wrap n = n := IntWalk.i64_in _ h
theorem wrap_u64_in {n : Int} (h : 0 ≤ n ∧ n < 18446744073709551616) : IntKind.u64.wrap n = n := by rw [IntKind.wrap_u64]; exact Int.emod_eq_of_lt h.1 h.2
theorem wrap_u8_in {n : Int} (h : 0 ≤ n ∧ n < 256) : IntKind.u8.wrap n = n := by rw [IntKind.wrap_u8]; exact Int.emod_eq_of_lt h.1 h.2
end Go.Proofs.Ytcbngjpihcemiaa
