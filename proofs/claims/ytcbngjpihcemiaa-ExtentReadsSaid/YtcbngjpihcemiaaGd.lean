/- The ghost walk: operations that read, or only compute. Over any program. -/
import Derived.Test.YtcbngjpihcemiaaGt
import Derived.WalkLawsBesides
import Derived.IntWalk
namespace Go.Proofs.Ytcbngjpihcemiaa
open Go.RowKit

section eqs
variable {P : Program} {t : TypeId} (w : World)
theorem eqIn_bool (d : Nat) (a b : Bool) (h : P.underlying t = some .bool) : (Op.equalIn (d + 1) t (.bool a) (.bool b)).run P w = .ok (a == b) w := by
  unfold Op.equalIn
  simp [run_underlying h]
theorem run_eq_bool (h : P.underlying t = some .bool) (w : World) (a b : Bool) : (Op.equal t (.bool a) (.bool b)).run P w = .ok (a == b) w := eqIn_bool w 9999 a b h
theorem eqIn_ptr (d : Nat) (e : TypeId) (p : Option Addr) (h : P.underlying t = some (.pointer e)) : (Op.equalIn (d + 1) t (.pointer p) (.pointer none)).run P w = .ok p.isNone w := by
  unfold Op.equalIn
  cases p <;> simp [run_underlying h]
theorem run_eq_ptr {e : TypeId} (h : P.underlying t = some (.pointer e)) (w : World) (p : Option Addr) : (Op.equal t (.pointer p) (.pointer none)).run P w = .ok p.isNone w := eqIn_ptr w 9999 e p h
theorem eqIn_slice (d : Nat) (e : TypeId) (p : Option Addr) (n c n' c' : Nat) (h : P.underlying t = some (.slice e)) : (Op.equalIn (d + 1) t (.slice p n c) (.slice none n' c')).run P w = .ok p.isNone w := by
  unfold Op.equalIn
  cases p <;> simp [run_underlying h]
theorem run_eq_slice {e : TypeId} (h : P.underlying t = some (.slice e)) (w : World) (p : Option Addr) (n c n' c' : Nat) : (Op.equal t (.slice p n c) (.slice none n' c')).run P w = .ok p.isNone w := eqIn_slice w 9999 e p n c n' c' h
end eqs
section
variable {P : Program} {T : Tab} {o : Oper} {env : Env} {H : Hp} {x y : Operand} {t : TypeId} {i : TyI}
theorem GRd.pure {v : Value} (h : ∀ μ N a, ER μ N env a → ∃ rv, VR μ v rv ∧ ∀ w, (execOp a.eval o).run P w = .ok (.value rv) w) : GRd P o env H v [] := fun μ N a _ _ he =>
  let ⟨rv, h1, h2⟩ := h μ N a he
  ⟨rv, h1, fun w' _ => h2 w'⟩
theorem grd_move {v : Value} (ho : o.op = .move x) (hx : geval env x = some v) : GRd P o env H v [] :=
  .pure fun μ N a he => ⟨a.eval x, he.eval hx, fun w => by simp [execOp, ho]⟩
theorem grd_assign {v : Value} (ho : o.op = .assign x) (hx : geval env x = some v) : GRd P o env H v [] :=
  .pure fun μ N a he => ⟨a.eval x, he.eval hx, fun w => by simp [execOp, ho]⟩
theorem grd_pick {c : Operand} {u v : Value} {b : Bool} (ho : o.op = .pick c x y) (hc : geval env c = some (.bool b)) (hx : geval env x = some u) (hy : geval env y = some v) : GRd P o env H (if b then u else v) [] :=
  .pure fun μ N a he => by
    have h1 := (he.eval hc).plain_eq rfl
    cases b with
    | true => exact ⟨a.eval x, by simpa using he.eval hx, fun w => by simp [execOp, ho, h1, asBool]⟩
    | false => exact ⟨a.eval y, by simpa using he.eval hy, fun w => by simp [execOp, ho, h1, asBool]⟩
/-- The same, where only the arm that counts is known. -/
theorem grd_pick_t {c : Operand} {u : Value} {b : Bool} (ho : o.op = .pick c x y) (hc : geval env c = some (.bool b)) (hb : b = true) (hx : geval env x = some u) : GRd P o env H u [] :=
  .pure fun μ N a he => ⟨a.eval x, he.eval hx, fun w => by simp [execOp, ho, (he.eval hc).plain_eq rfl, hb, asBool]⟩
theorem grd_pick_f {c : Operand} {v : Value} {b : Bool} (ho : o.op = .pick c x y) (hc : geval env c = some (.bool b)) (hb : b = false) (hy : geval env y = some v) : GRd P o env H v [] :=
  .pure fun μ N a he => ⟨a.eval y, he.eval hy, fun w => by simp [execOp, ho, (he.eval hc).plain_eq rfl, hb, asBool]⟩
theorem grd_nil {p : Addr} (ho : o.op = .nilCheck x) (hx : geval env x = some (.pointer (some p))) : GRd P o env H (.pointer (some p)) [] :=
  .pure fun μ N a he => by
    have h := he.eval hx
    generalize hv : a.eval x = v at h
    cases h with
    | ptr h' => exact ⟨_, .ptr h', fun w => by simp [execOp, ho, hv]⟩
theorem grd_extract {l : Array Value} {k : Nat} {v : Value} (ho : o.op = .extract x k) (hx : geval env x = some (.tuple l)) (hv : l[k]? = some v) : GRd P o env H v [] :=
  .pure fun μ N a he => by
    have h := he.eval hx
    generalize hr : a.eval x = r at h
    cases h with
    | tuple hs =>
      rename_i b
      obtain ⟨v', h1, h2⟩ := hs.get k v (by simpa using hv)
      exact ⟨v', h2, fun w => by simp [execOp, ho, hr, Instr.extract, show b[k]? = some v' by simpa using h1]⟩
/-- Two plain operands. -/
theorem grd_bin {op : BinOp} {yt : TypeId} {u v r : Value} (ho : o.op = .binOp op t x y yt) (hx : geval env x = some u) (hy : geval env y = some v) (hu : plainB u = true) (hv : plainB v = true) (hr : plainB r = true)
    (h : ∀ w, (do eqGuard op t x y u v; binOp op t u v : Sem Value).run P w = .ok r w) : GRd P o env H r [] :=
  .pure fun μ N a he => by
    have h1 := (he.eval hx).plain_eq hu
    have h2 := (he.eval hy).plain_eq hv
    refine ⟨r, .plain hr, fun w => ?_⟩
    simp only [execOp, ho, h1, h2]
    have := h w
    simp only [Sem.run_bind] at this ⊢
    rw [this]
    rfl
section ints
variable {k : IntKind} {a b : Int} {yt : TypeId}
theorem grd_add (ho : o.op = .binOp .add t x y yt) (hx : geval env x = some (.int k a)) (hy : geval env y = some (.int k b)) : GRd P o env H (.int k (k.wrap (a + b))) [] :=
  grd_bin ho hx hy rfl rfl rfl fun w => by simp [eqGuard, binOp, Op.intArith]
theorem grd_sub (ho : o.op = .binOp .sub t x y yt) (hx : geval env x = some (.int k a)) (hy : geval env y = some (.int k b)) : GRd P o env H (.int k (k.wrap (a - b))) [] :=
  grd_bin ho hx hy rfl rfl rfl fun w => by simp [eqGuard, binOp, Op.intArith]
theorem grd_mul (ho : o.op = .binOp .mul t x y yt) (hx : geval env x = some (.int k a)) (hy : geval env y = some (.int k b)) : GRd P o env H (.int k (k.wrap (a * b))) [] :=
  grd_bin ho hx hy rfl rfl rfl fun w => by simp [eqGuard, binOp, Op.intArith]
theorem grd_quo (ho : o.op = .binOp .quo t x y yt) (hx : geval env x = some (.int k a)) (hy : geval env y = some (.int k b)) (h0 : b ≠ 0) : GRd P o env H (.int k (k.wrap (a.tdiv b))) [] :=
  grd_bin ho hx hy rfl rfl rfl fun w => by simp [eqGuard, binOp, Op.intDiv, h0]
theorem grd_rem (ho : o.op = .binOp .rem t x y yt) (hx : geval env x = some (.int k a)) (hy : geval env y = some (.int k b)) (h0 : b ≠ 0) : GRd P o env H (.int k (a.tmod b)) [] :=
  grd_bin ho hx hy rfl rfl rfl fun w => by simp [eqGuard, binOp, Op.intDiv, h0]
/-- The same, where nothing runs over. -/
theorem grd_add64 (ho : o.op = .binOp .add t x y yt) (hx : geval env x = some (.int .i64 a)) (hy : geval env y = some (.int .i64 b)) (h : -9223372036854775808 ≤ a + b ∧ a + b ≤ 9223372036854775807) : GRd P o env H (.int .i64 (a + b)) [] := by
  have h1 := grd_add (P := P) (H := H) ho hx hy
  rwa [IntWalk.i64_in _ h] at h1
theorem grd_sub64 (ho : o.op = .binOp .sub t x y yt) (hx : geval env x = some (.int .i64 a)) (hy : geval env y = some (.int .i64 b)) (h : -9223372036854775808 ≤ a - b ∧ a - b ≤ 9223372036854775807) : GRd P o env H (.int .i64 (a - b)) [] := by
  have h1 := grd_sub (P := P) (H := H) ho hx hy
  rwa [IntWalk.i64_in _ h] at h1
theorem grd_mul64 (ho : o.op = .binOp .mul t x y yt) (hx : geval env x = some (.int .i64 a)) (hy : geval env y = some (.int .i64 b)) (h : -9223372036854775808 ≤ a * b ∧ a * b ≤ 9223372036854775807) : GRd P o env H (.int .i64 (a * b)) [] := by
  have h1 := grd_mul (P := P) (H := H) ho hx hy
  rwa [IntWalk.i64_in _ h] at h1
theorem grd_quo64 (ho : o.op = .binOp .quo t x y yt) (hx : geval env x = some (.int .i64 a)) (hy : geval env y = some (.int .i64 b)) (h0 : 0 < b) (ha : 0 ≤ a ∧ a ≤ 9223372036854775807) : GRd P o env H (.int .i64 (a / b)) [] := by
  have h1 := grd_quo (P := P) (H := H) ho hx hy (by omega)
  rw [Int.tdiv_eq_ediv_of_nonneg ha.1, IntWalk.i64_in _ ⟨by have := Int.ediv_nonneg ha.1 (Int.le_of_lt h0); omega, by have := Int.ediv_le_self b ha.1; omega⟩] at h1
  exact h1
theorem grd_rem64 (ho : o.op = .binOp .rem t x y yt) (hx : geval env x = some (.int k a)) (hy : geval env y = some (.int k b)) (h0 : b ≠ 0) (ha : 0 ≤ a) : GRd P o env H (.int k (a % b)) [] := by
  have h1 := grd_rem (P := P) (H := H) ho hx hy h0
  rwa [Int.tmod_eq_emod_of_nonneg ha] at h1
theorem grd_addU (ho : o.op = .binOp .add t x y yt) (hx : geval env x = some (.int .u64 a)) (hy : geval env y = some (.int .u64 b)) (h : 0 ≤ a + b ∧ a + b < 18446744073709551616) : GRd P o env H (.int .u64 (a + b)) [] := by
  have h1 := grd_add (P := P) (H := H) ho hx hy
  rwa [IntKind.wrap_u64, Int.emod_eq_of_lt h.1 h.2] at h1
theorem grd_subU (ho : o.op = .binOp .sub t x y yt) (hx : geval env x = some (.int .u64 a)) (hy : geval env y = some (.int .u64 b)) (h : 0 ≤ a - b ∧ a - b < 18446744073709551616) : GRd P o env H (.int .u64 (a - b)) [] := by
  have h1 := grd_sub (P := P) (H := H) ho hx hy
  rwa [IntKind.wrap_u64, Int.emod_eq_of_lt h.1 h.2] at h1
theorem grd_eql (ho : o.op = .binOp .eql t x y yt) (hx : geval env x = some (.int k a)) (hy : geval env y = some (.int k b)) : GRd P o env H (.bool (decide (a = b))) [] :=
  grd_bin ho hx hy rfl rfl rfl fun w => by simp [eqGuard, binOp, Op.intCmp, BEq.beq]
theorem grd_neq (ho : o.op = .binOp .neq t x y yt) (hx : geval env x = some (.int k a)) (hy : geval env y = some (.int k b)) : GRd P o env H (.bool (decide (a ≠ b))) [] :=
  grd_bin ho hx hy rfl rfl rfl fun w => by simp [eqGuard, binOp, Op.intCmp, bne, BEq.beq]
theorem grd_lss (ho : o.op = .binOp .lss t x y yt) (hx : geval env x = some (.int k a)) (hy : geval env y = some (.int k b)) : GRd P o env H (.bool (decide (a < b))) [] :=
  grd_bin ho hx hy rfl rfl rfl fun w => by simp [eqGuard, binOp, Op.intCmp]
theorem grd_leq (ho : o.op = .binOp .leq t x y yt) (hx : geval env x = some (.int k a)) (hy : geval env y = some (.int k b)) : GRd P o env H (.bool (decide (a ≤ b))) [] :=
  grd_bin ho hx hy rfl rfl rfl fun w => by simp [eqGuard, binOp, Op.intCmp]
theorem grd_gtr (ho : o.op = .binOp .gtr t x y yt) (hx : geval env x = some (.int k a)) (hy : geval env y = some (.int k b)) : GRd P o env H (.bool (decide (b < a))) [] :=
  grd_bin ho hx hy rfl rfl rfl fun w => by simp [eqGuard, binOp, Op.intCmp]
theorem grd_geq (ho : o.op = .binOp .geq t x y yt) (hx : geval env x = some (.int k a)) (hy : geval env y = some (.int k b)) : GRd P o env H (.bool (decide (b ≤ a))) [] :=
  grd_bin ho hx hy rfl rfl rfl fun w => by simp [eqGuard, binOp, Op.intCmp]
theorem grd_bits (op : BinOp) (hop : op = .and ∨ op = .or ∨ op = .xor ∨ op = .andNot) (ho : o.op = .binOp op t x y yt) (hx : geval env x = some (.int k a)) (hy : geval env y = some (.int k b)) : GRd P o env H (.int k (bits op k a b)) [] :=
  grd_bin ho hx hy rfl rfl rfl fun w => by rcases hop with rfl | rfl | rfl | rfl <;> simp [eqGuard, binOp, Op.intBits, bits]
theorem grd_shl {yk : IntKind} (ho : o.op = .binOp .shl t x y yt) (hx : geval env x = some (.int k a)) (hy : geval env y = some (.int yk b)) (h0 : 0 ≤ b) : GRd P o env H (.int k (k.wrap (a * 2 ^ (min b.toNat k.bits)))) [] :=
  grd_bin ho hx hy rfl rfl rfl fun w => by simp [eqGuard, binOp, Op.shift, show ¬ b < 0 by omega]
theorem grd_shr {yk : IntKind} (ho : o.op = .binOp .shr t x y yt) (hx : geval env x = some (.int k a)) (hy : geval env y = some (.int yk b)) (h0 : 0 ≤ b) : GRd P o env H (.int k (a.fdiv (2 ^ (min b.toNat k.bits)))) [] :=
  grd_bin ho hx hy rfl rfl rfl fun w => by simp [eqGuard, binOp, Op.shift, show ¬ b < 0 by omega]
end ints
theorem grd_seql {a b : ByteArray} {yt : TypeId} (ho : o.op = .binOp .eql t x y yt) (hx : geval env x = some (.string a)) (hy : geval env y = some (.string b)) : GRd P o env H (.bool (a.toList == b.toList)) [] :=
  grd_bin ho hx hy rfl rfl rfl fun w => by simp [eqGuard, binOp, Op.stringOp]
theorem grd_sneq {a b : ByteArray} {yt : TypeId} (ho : o.op = .binOp .neq t x y yt) (hx : geval env x = some (.string a)) (hy : geval env y = some (.string b)) : GRd P o env H (.bool (!(a.toList == b.toList))) [] :=
  grd_bin ho hx hy rfl rfl rfl fun w => by simp [eqGuard, binOp, Op.stringOp]
theorem grd_sadd {a b : ByteArray} {yt : TypeId} (ho : o.op = .binOp .add t x y yt) (hx : geval env x = some (.string a)) (hy : geval env y = some (.string b)) (h : a.size + b.size ≤ 9223372036854775807) : GRd P o env H (.string (a ++ b)) [] :=
  grd_bin ho hx hy rfl rfl rfl fun w => by
    have : ¬ (((a.size + b.size : Nat) : Int) > IntKind.i64.max) := by
      have e : IntKind.i64.max = 9223372036854775807 := by decide
      omega
    simp only [eqGuard, binOp, Op.stringOp, this]
    simp
theorem grd_not {b : Bool} (ho : o.op = .unOp .not t x) (hx : geval env x = some (.bool b)) : GRd P o env H (.bool (!b)) [] :=
  .pure fun μ N a he => ⟨.bool (!b), .bool _, fun w => by simp [execOp, ho, (he.eval hx).plain_eq rfl, Op.unary]⟩
theorem grd_neg {k : IntKind} {n : Int} (ho : o.op = .unOp .neg t x) (hx : geval env x = some (.int k n)) : GRd P o env H (.int k (k.wrap (0 - n))) [] :=
  .pure fun μ N a he => ⟨_, .int _ _, fun w => by simp [execOp, ho, (he.eval hx).plain_eq rfl, Op.unary, Op.intArith]⟩
theorem grd_beql {a b : Bool} {yt : TypeId} (hT : T.ok P) (ho : o.op = .binOp .eql t x y yt) (ht : T t = some i) (hd : i.d = .bool) (hx : geval env x = some (.bool a)) (hy : geval env y = some (.bool b)) : GRd P o env H (.bool (a == b)) [] :=
  grd_bin ho hx hy rfl rfl rfl fun w => by simp [eqGuard, binOp, run_eq_bool (Tab.bool hT ht hd)]
theorem grd_bneq {a b : Bool} {yt : TypeId} (hT : T.ok P) (ho : o.op = .binOp .neq t x y yt) (ht : T t = some i) (hd : i.d = .bool) (hx : geval env x = some (.bool a)) (hy : geval env y = some (.bool b)) : GRd P o env H (.bool (!(a == b))) [] :=
  grd_bin ho hx hy rfl rfl rfl fun w => by simp [eqGuard, binOp, run_eq_bool (Tab.bool hT ht hd)]
theorem grd_peql {p : Option Addr} {e : TypeId} {yt : TypeId} (hT : T.ok P) (ho : o.op = .binOp .eql t x y yt) (ht : T t = some i) (hd : i.d = .ptr e) (hx : geval env x = some (.pointer p)) (hy : geval env y = some (.pointer none)) : GRd P o env H (.bool p.isNone) [] :=
  .pure fun μ N a he => by
    have h := he.eval hx
    have h2 := (he.eval hy).plain_eq rfl
    generalize hv : a.eval x = v at h
    refine ⟨_, .bool _, fun w => ?_⟩
    cases h <;> simp [execOp, ho, hv, h2, eqGuard, binOp, run_eq_ptr (Tab.ptr hT ht hd)]
theorem grd_pneq {p : Option Addr} {e : TypeId} {yt : TypeId} (hT : T.ok P) (ho : o.op = .binOp .neq t x y yt) (ht : T t = some i) (hd : i.d = .ptr e) (hx : geval env x = some (.pointer p)) (hy : geval env y = some (.pointer none)) : GRd P o env H (.bool p.isSome) [] :=
  .pure fun μ N a he => by
    have h := he.eval hx
    have h2 := (he.eval hy).plain_eq rfl
    generalize hv : a.eval x = v at h
    refine ⟨_, .bool _, fun w => ?_⟩
    cases h <;> simp [execOp, ho, hv, h2, eqGuard, binOp, run_eq_ptr (Tab.ptr hT ht hd)]
theorem grd_sleql {p : Option Addr} {n c e z by_ : Nat} {zr : List Value} {yt : TypeId} (hT : T.ok P) (ho : o.op = .binOp .eql t x y yt) (ht : T t = some i) (hd : i.d = .slice e z by_ zr) (hx : geval env x = some (.slice p n c)) (hy : geval env y = some (.slice none 0 0)) : GRd P o env H (.bool p.isNone) [] :=
  .pure fun μ N a he => by
    have h := he.eval hx
    have h2 := (he.eval hy).plain_eq rfl
    generalize hv : a.eval x = v at h
    refine ⟨_, .bool _, fun w => ?_⟩
    cases h <;> simp [execOp, ho, hv, h2, eqGuard, binOp, run_eq_slice (Tab.slice hT ht hd).1]
theorem grd_slneq {p : Option Addr} {n c e z by_ : Nat} {zr : List Value} {yt : TypeId} (hT : T.ok P) (ho : o.op = .binOp .neq t x y yt) (ht : T t = some i) (hd : i.d = .slice e z by_ zr) (hx : geval env x = some (.slice p n c)) (hy : geval env y = some (.slice none 0 0)) : GRd P o env H (.bool p.isSome) [] :=
  .pure fun μ N a he => by
    have h := he.eval hx
    have h2 := (he.eval hy).plain_eq rfl
    generalize hv : a.eval x = v at h
    refine ⟨_, .bool _, fun w => ?_⟩
    cases h <;> simp [execOp, ho, hv, h2, eqGuard, binOp, run_eq_slice (Tab.slice hT ht hd).1]
end
end Go.Proofs.Ytcbngjpihcemiaa
