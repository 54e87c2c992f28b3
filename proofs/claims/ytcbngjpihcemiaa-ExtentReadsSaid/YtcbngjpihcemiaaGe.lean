/- The ghost walk: addresses, loads, slices, conversions. Over any program. -/
import Derived.Test.YtcbngjpihcemiaaGd
namespace Go.Proofs.Ytcbngjpihcemiaa
open Go.RowKit

theorem addr_add (g o k : Nat) : (⟨g, o, none⟩ : Addr).add k = ⟨g, o + k, none⟩ := Addr.add_lit g o k
section
variable {P : Program} {T : Tab} {o : Oper} {env : Env} {H : Hp} {x y : Operand} {t : TypeId} {i : TyI}
theorem run_size {w : World} {x : TypeInfo} (h : P.info? t = some x) : (sizeOf t).run P w = .ok x.size w := by simp [sizeOf, typeInfo, h]
theorem run_isAgg_no (hT : T.ok P) (ht : T t = some i) (ha : i.agg = false) (w : World) : (isAgg t).run P w = .ok false w := by
  obtain ⟨d, h1, h2⟩ := Tab.notAgg hT ht ha
  unfold isAgg
  simp only [Sem.run_bind, run_underlying h1, Result.andThen_ok]
  cases d <;> first | rfl | cases h2
theorem run_isAgg_yes (hT : T.ok P) (ht : T t = some i) (ha : i.agg = true) (w : World) : (isAgg t).run P w = .ok true w := by
  obtain ⟨sz, by_, zr, d⟩ := i
  cases d with
  | arr n e z =>
    obtain ⟨h1, _⟩ := Tab.arr hT ht rfl
    simp [isAgg, run_underlying h1]
  | struct fs =>
    obtain ⟨gs, h1, _⟩ := Tab.struct hT ht rfl
    simp [isAgg, run_underlying h1]
  | _ => cases ha
/-- The real cells of a run, in any world that has the block. -/
theorem SimH.run_in {μ : Ren} {w w' : World} {b : Blk} {j : Nat} (hs : SimH μ H w) (hb : H.at j = some b) (off n : Nat) (hn : off + n ≤ b.cs.length) (hk : ∀ L, μ j = some L → w'.heap[L.g]? = w.heap[L.g]?) :
    ∃ L l', μ j = some L ∧ VRs μ ((b.cs.drop off).take n) l' ∧ l'.length = n ∧ ∀ (k : Nat) (v' : Value), l'[k]? = some v' → w'.cell? ⟨L.g, L.d + off + k, none⟩ = some v' := by
  obtain ⟨L, l', h1, h2, h3, h4⟩ := hs.run hb off n hn
  exact ⟨L, l', h1, h2, h3, fun k v' hv => (World.cell?_of_block (hk L h1)).trans (h4 k v' hv)⟩
theorem VR.addr {μ : Ren} {j off : Nat} {v' : Value} {L : Loc} (h : VR μ (.pointer (some ⟨j, off, none⟩)) v') (hL : μ j = some L) : v' = .pointer (some ⟨L.g, L.d + off, none⟩) := by
  cases h with
  | ptr h' =>
    rw [hL] at h'
    injection h' with h'
    subst h'
    rfl
theorem grd_load1 {j off : Nat} {b : Blk} {v : Value} (hT : T.ok P) (ho : o.op = .load t x) (ht : T t = some i) (ha : i.agg = false) (hx : geval env x = some (.pointer (some ⟨j, off, none⟩))) (hb : H.at j = some b) (hv : b.cs[off]? = some v) : GRd P o env H v [j] := fun μ N a w hs he => by
  obtain ⟨L, v', h1, h2, h3⟩ := hs.cell hb hv
  refine ⟨v', h3, fun w' hk => ?_⟩
  have hc : w'.cell? ⟨L.g, L.d + off, none⟩ = some v' := (World.cell?_of_block (hk j (by simp) L h1)).trans h2
  have hp := (he.eval hx).addr h1
  simp [execOp, ho, hp, Instr.loadAt, Instr.sureAddr, loadVar, run_isAgg_no hT ht ha, load, Sem.run, hc]
theorem grd_loadN {j off : Nat} {b : Blk} (hT : T.ok P) (ho : o.op = .load t x) (ht : T t = some i) (ha : i.agg = true) (hx : geval env x = some (.pointer (some ⟨j, off, none⟩))) (hb : H.at j = some b) (hn : off + i.size ≤ b.cs.length) : GRd P o env H (.agg ((b.cs.drop off).take i.size).toArray) [j] := fun μ N a w hs he => by
  obtain ⟨L, l', h1, h2, h3, h4⟩ := hs.run hb off i.size hn
  refine ⟨.agg l'.toArray, .agg (by simpa using h2), fun w' hk => ?_⟩
  have hc : ∀ (k : Nat) (v' : Value), l'[k]? = some v' → w'.cell? ((⟨L.g, L.d + off, none⟩ : Addr).add k) = some v' := fun k v' hv => by
    rw [addr_add]
    exact (World.cell?_of_block (hk j (by simp) L h1)).trans (h4 k v' hv)
  have hp := (he.eval hx).addr h1
  obtain ⟨ti, q1, q2, _⟩ := Tab.size hT ht
  have hl := run_loadCells_list (P := P) w' ⟨L.g, L.d + off, none⟩ l' hc
  rw [h3] at hl
  simp [execOp, ho, hp, Instr.loadAt, Instr.sureAddr, loadVar, run_isAgg_yes hT ht ha, run_size q1, q2, hl]
theorem grd_fieldAddr {j off f fo ty sz : Nat} {gs : List (Nat × TypeId × Nat)} (hT : T.ok P) (ho : o.op = .fieldAddr t x f) (ht : T t = some i) (hd : i.d = .struct gs) (hf : gs[f]? = some (fo, ty, sz)) (hx : geval env x = some (.pointer (some ⟨j, off, none⟩))) : GRd P o env H (.pointer (some ⟨j, off + fo, none⟩)) [] :=
  .pure fun μ N a he => by
    have h := he.eval hx
    generalize hv : a.eval x = v at h
    cases h with
    | ptr hL =>
      rename_i L
      refine ⟨.pointer (some ⟨L.g, L.d + (off + fo), none⟩), .ptr hL, fun w => ?_⟩
      obtain ⟨fs, h1, _, h2⟩ := Tab.struct hT ht hd
      obtain ⟨fl, ti, h3, h4, h5, h6, h7, h8⟩ := h2 f fo ty sz hf
      subst h5
      subst h4
      have h6' : ti.size ≠ 0 := by rw [h8]; exact h6
      simp [execOp, ho, hv, Instr.fieldAt, run_underlying h1, h3, Instr.sureAddr, fieldPlace, run_size h7, h6', addr_add, Nat.add_assoc]
theorem grd_field1 {f fo ty sz : Nat} {gs : List (Nat × TypeId × Nat)} {cs : Array Value} {v : Value} {i2 : TyI} (hT : T.ok P) (ho : o.op = .field t x f) (ht : T t = some i) (hd : i.d = .struct gs) (hf : gs[f]? = some (fo, ty, sz)) (ht2 : T ty = some i2) (ha : i2.agg = false)
    (hx : geval env x = some (.agg cs)) (hv : cs[fo]? = some v) : GRd P o env H v [] :=
  .pure fun μ N a he => by
    have h := he.eval hx
    generalize hr : a.eval x = r at h
    cases h with
    | agg hs =>
      rename_i cs'
      obtain ⟨v', q1, q2⟩ := hs.get fo v (by simpa using hv)
      refine ⟨v', q2, fun w => ?_⟩
      obtain ⟨fs, h1, _, h2⟩ := Tab.struct hT ht hd
      obtain ⟨fl, ti, h3, h4, h5, h6, h7, h8⟩ := h2 f fo ty sz hf
      subst h5
      subst h4
      have q1' : cs'[fl.offset]? = some v' := by simpa using q1
      simp [execOp, ho, hr, Instr.field, run_underlying h1, h3, part, asAgg, run_isAgg_no hT ht2 ha, q1']
theorem grd_fieldN {f fo ty sz : Nat} {gs : List (Nat × TypeId × Nat)} {cs : Array Value} {i2 : TyI} (hT : T.ok P) (ho : o.op = .field t x f) (ht : T t = some i) (hd : i.d = .struct gs) (hf : gs[f]? = some (fo, ty, sz)) (ht2 : T ty = some i2) (ha : i2.agg = true)
    (hx : geval env x = some (.agg cs)) : GRd P o env H (.agg (cs.extract fo (fo + i2.size))) [] :=
  .pure fun μ N a he => by
    have h := he.eval hx
    generalize hr : a.eval x = r at h
    cases h with
    | agg hs =>
      rename_i cs'
      refine ⟨.agg (cs'.extract fo (fo + i2.size)), .agg ?_, fun w => ?_⟩
      · rw [Array.toList_extract, Array.toList_extract]
        exact (hs.drop _).take _
      obtain ⟨fs, h1, _, h2⟩ := Tab.struct hT ht hd
      obtain ⟨fl, ti, h3, h4, h5, h6, h7, h8⟩ := h2 f fo ty sz hf
      subst h5
      subst h4
      obtain ⟨ti2, q1, q2, _⟩ := Tab.size hT ht2
      simp [execOp, ho, hr, Instr.field, run_underlying h1, h3, part, asAgg, run_isAgg_yes hT ht2 ha, run_size q1, q2]
theorem grd_indexV1 {n e z : Nat} {k : IntKind} {m : Int} {cs : Array Value} {v : Value} {i2 : TyI} (hT : T.ok P) (ho : o.op = .index t x y) (ht : T t = some i) (hd : i.d = .arr n e z) (ht2 : T e = some i2) (ha : i2.agg = false)
    (hx : geval env x = some (.agg cs)) (hy : geval env y = some (.int k m)) (h0 : 0 ≤ m) (h1 : m < (n : Int)) (hv : cs[m.toNat * z]? = some v) : GRd P o env H v [] :=
  .pure fun μ N a he => by
    have h2 := (he.eval hy).plain_eq rfl
    have h := he.eval hx
    generalize hr : a.eval x = r at h
    cases h with
    | agg hs =>
      rename_i cs'
      obtain ⟨v', q1, q2⟩ := hs.get _ v (by simpa using hv)
      refine ⟨v', q2, fun w => ?_⟩
      obtain ⟨g1, xi, g2, g3⟩ := Tab.arr hT ht hd
      have q1' : cs'[m.toNat * z]? = some v' := by simpa using q1
      simp [execOp, ho, hr, h2, Instr.index, asIntOf, run_underlying g1, h0, h1, part, run_size g2, g3, run_isAgg_no hT ht2 ha, q1']
theorem grd_indexVN {n e z : Nat} {k : IntKind} {m : Int} {cs : Array Value} {i2 : TyI} (hT : T.ok P) (ho : o.op = .index t x y) (ht : T t = some i) (hd : i.d = .arr n e z) (ht2 : T e = some i2) (ha : i2.agg = true)
    (hx : geval env x = some (.agg cs)) (hy : geval env y = some (.int k m)) (h0 : 0 ≤ m) (h1 : m < (n : Int)) : GRd P o env H (.agg (cs.extract (m.toNat * z) (m.toNat * z + i2.size))) [] :=
  .pure fun μ N a he => by
    have h2 := (he.eval hy).plain_eq rfl
    have h := he.eval hx
    generalize hr : a.eval x = r at h
    cases h with
    | agg hs =>
      rename_i cs'
      refine ⟨.agg (cs'.extract (m.toNat * z) (m.toNat * z + i2.size)), .agg ?_, fun w => ?_⟩
      · rw [Array.toList_extract, Array.toList_extract]
        exact (hs.drop _).take _
      obtain ⟨g1, xi, g2, g3⟩ := Tab.arr hT ht hd
      obtain ⟨ti2, q1, q2, _⟩ := Tab.size hT ht2
      rw [q1] at g2
      injection g2 with g2
      subst g2
      simp [execOp, ho, hr, h2, Instr.index, asIntOf, run_underlying g1, h0, h1, part, run_size q1, ← g3, run_isAgg_yes hT ht2 ha, q2]
theorem grd_indexAddr {j off n c e z by_ : Nat} {zr : List Value} {k : IntKind} {m : Int} (hT : T.ok P) (ho : o.op = .indexAddr t x y) (ht : T t = some i) (hd : i.d = .slice e z by_ zr) (hx : geval env x = some (.slice (some ⟨j, off, none⟩) n c)) (hy : geval env y = some (.int k m)) (h0 : 0 ≤ m) (h1 : m < (n : Int)) :
    GRd P o env H (.pointer (some ⟨j, off + m.toNat * z, none⟩)) [] :=
  .pure fun μ N a he => by
    have h := he.eval hx
    have h2 := (he.eval hy).plain_eq rfl
    generalize hr : a.eval x = r at h
    cases h with
    | sl hL hn hm hc hu ha =>
      rename_i c' a' L
      obtain rfl := ha (by omega)
      refine ⟨.pointer (some ⟨L.g, L.d + (off + m.toNat * z), none⟩), .ptr hL, fun w => ?_⟩
      obtain ⟨q1, ti, q2, q3, _⟩ := Tab.slice hT ht hd
      simp [execOp, ho, hr, h2, Instr.indexAt, asIntOf, run_underlying q1, h0, h1, run_size q2, q3, addr_add, Nat.add_assoc]
theorem grd_indexAddrA {j off n e z : Nat} {k : IntKind} {m : Int} (hT : T.ok P) (ho : o.op = .indexAddr t x y) (ht : T t = some i) (hd : i.d = .arr n e z) (hx : geval env x = some (.pointer (some ⟨j, off, none⟩))) (hy : geval env y = some (.int k m)) (h0 : 0 ≤ m) (h1 : m < (n : Int)) :
    GRd P o env H (.pointer (some ⟨j, off + m.toNat * z, none⟩)) [] :=
  .pure fun μ N a he => by
    have h := he.eval hx
    have h2 := (he.eval hy).plain_eq rfl
    generalize hr : a.eval x = r at h
    cases h with
    | ptr hL =>
      rename_i L
      refine ⟨.pointer (some ⟨L.g, L.d + (off + m.toNat * z), none⟩), .ptr hL, fun w => ?_⟩
      obtain ⟨q1, ti, q2, q3⟩ := Tab.arr hT ht hd
      simp [execOp, ho, hr, h2, Instr.indexAt, asIntOf, Instr.sureAddr, run_underlying q1, h0, h1, run_size q2, q3, addr_add, Nat.add_assoc]
/-- The same, at elements of one cell and a natural number. -/
theorem grd_indexAddr1 {j off n c e by_ m : Nat} {zr : List Value} {k : IntKind} (hT : T.ok P) (ho : o.op = .indexAddr t x y) (ht : T t = some i) (hd : i.d = .slice e 1 by_ zr) (hx : geval env x = some (.slice (some ⟨j, off, none⟩) n c)) (hy : geval env y = some (.int k (m : Int))) (h1 : m < n) :
    GRd P o env H (.pointer (some ⟨j, off + m, none⟩)) [] := by
  have h := grd_indexAddr (H := H) hT ho ht hd hx hy (by omega) (by omega)
  rwa [Int.toNat_natCast, Nat.mul_one] at h
theorem grd_indexAddrA1 {j off n e m : Nat} {k : IntKind} (hT : T.ok P) (ho : o.op = .indexAddr t x y) (ht : T t = some i) (hd : i.d = .arr n e 1) (hx : geval env x = some (.pointer (some ⟨j, off, none⟩))) (hy : geval env y = some (.int k (m : Int))) (h1 : m < n) :
    GRd P o env H (.pointer (some ⟨j, off + m, none⟩)) [] := by
  have h := grd_indexAddrA (H := H) hT ho ht hd hx hy (by omega) (by omega)
  rwa [Int.toNat_natCast, Nat.mul_one] at h
theorem grd_indexS {s : ByteArray} {k : IntKind} {m : Int} {c : UInt8} (hT : T.ok P) (ho : o.op = .index t x y) (ht : T t = some i) (hd : i.d = .str) (hx : geval env x = some (.string s)) (hy : geval env y = some (.int k m)) (h0 : 0 ≤ m) (h1 : s[m.toNat]? = some c) : GRd P o env H (.int .u8 (c.toNat : Int)) [] :=
  .pure fun μ N a he => by
    have h2 := (he.eval hy).plain_eq rfl
    have h3 := (he.eval hx).plain_eq rfl
    exact ⟨_, .int _ _, fun w => by simp [execOp, ho, h2, h3, Instr.index, asIntOf, run_underlying (Tab.str hT ht hd), h0, h1]⟩
theorem grd_len {p : Option Addr} {n c e z by_ : Nat} {zr : List Value} {ts : Array TypeId} (hT : T.ok P) (ho : o.op = .call { callee := .builtin .len, args := #[x], argTypes := ts }) (hts : ts[0]? = some t) (ht : T t = some i) (hd : i.d = .slice e z by_ zr) (hx : geval env x = some (.slice p n c)) : GRd P o env H (.int .i64 (n : Int)) [] :=
  .pure fun μ N a he => by
    have h := he.eval hx
    generalize hr : a.eval x = r at h
    refine ⟨.int .i64 (n : Int), .int _ _, fun w => ?_⟩
    have q1 := (Tab.slice hT ht hd).1
    cases h <;> simp [execOp, ho, resolve, invoke, builtin, Builtin.len_, hr, hts, run_underlying q1, goInt]
theorem grd_lenS {s : ByteArray} {ts : Array TypeId} (hT : T.ok P) (ho : o.op = .call { callee := .builtin .len, args := #[x], argTypes := ts }) (hts : ts[0]? = some t) (ht : T t = some i) (hd : i.d = .str) (hx : geval env x = some (.string s)) : GRd P o env H (.int .i64 (s.size : Int)) [] :=
  .pure fun μ N a he => by
    have h3 := (he.eval hx).plain_eq rfl
    exact ⟨_, .int _ _, fun w => by simp [execOp, ho, resolve, invoke, builtin, Builtin.len_, h3, hts, run_underlying (Tab.str hT ht hd), goInt]⟩
theorem grd_conv {k k' : IntKind} {n : Int} {src dst : TypeId} (hT : T.ok P) (ho : o.op = .convert src dst x) (ht0 : T src = some i) {i2 : TyI} (ht : T dst = some i2) (hd : i2.d = .int k) (hx : geval env x = some (.int k' n)) : GRd P o env H (.int k (k.wrap n)) [] :=
  .pure fun μ N a he => by
    have h3 := (he.eval hx).plain_eq rfl
    refine ⟨_, .int _ _, fun w => ?_⟩
    have h4 : ∃ d, P.underlying src = some d := by
      have := Tab.snd hT ht0
      cases hu : P.underlying src with
      | some d => exact ⟨d, rfl⟩
      | none => rw [hu] at this; cases this
    obtain ⟨d, h4⟩ := h4
    simp [execOp, ho, h3, convert, run_underlying h4, run_underlying (Tab.int hT ht hd), Conv.intToInt]
theorem grd_conv_in {k k' : IntKind} {n : Int} {src dst : TypeId} (hT : T.ok P) (ho : o.op = .convert src dst x) (ht0 : T src = some i) {i2 : TyI} (ht : T dst = some i2) (hd : i2.d = .int k) (hx : geval env x = some (.int k' n)) (hn : k.wrap n = n) : GRd P o env H (.int k n) [] := by
  have h := grd_conv (H := H) hT ho ht0 ht hd hx
  rwa [hn] at h
theorem grd_str {j off n c : Nat} {b : Blk} {l : List UInt8} {src dst e z by_ : Nat} {zr : List Value} {i2 i3 : TyI} (hT : T.ok P) (ho : o.op = .convert src dst x) (ht : T src = some i) (hd : i.d = .slice e z by_ zr) (hte : T e = some i3) (hde : i3.d = .int .u8) (ht2 : T dst = some i2) (hd2 : i2.d = .str)
    (hx : geval env x = some (.slice (some ⟨j, off, none⟩) n c)) (hb : H.at j = some b) (hl : (b.cs.drop off).take n = vb l) (hn : l.length = n) : GRd P o env H (.string ⟨l.toArray⟩) [j] := fun μ N a w hs he => by
  refine ⟨_, .string _, fun w' hk => ?_⟩
  have h := he.eval hx
  generalize hr : a.eval x = r at h
  have hlen : off + n ≤ b.cs.length ∨ n = 0 := by
    have := congrArg List.length hl
    rw [List.length_take, List.length_drop, vb_length, hn] at this
    omega
  have key : ∀ (A : Option Addr) (c' : Nat), (Rd w' w'.heap.size A (vb l)) → (convert src dst (.slice A n c')).run P w' = .ok (.string ⟨l.toArray⟩) w' := fun A c' hrd =>
    run_string_rd w' src dst e (Tab.slice hT ht hd).1 (Tab.int hT hte hde) (Tab.str hT ht2 hd2) n c' l hn hrd
  cases h with
  | sl hL hn' hm hc hu ha =>
    rename_i c' a' L
    have : Rd w' w'.heap.size (some a') (vb l) := by
      rcases Nat.eq_zero_or_pos n with h0 | h0
      · have : l = [] := List.eq_nil_of_length_eq_zero (by omega)
        subst this
        exact Rd.nil_ _ _ _
      · obtain rfl := ha (by omega)
        obtain ⟨M, l', q1, q2, q3, q4⟩ := hs.run_in hb off n (by omega) (fun L hL => hk j (by simp) L hL)
        rw [hL] at q1
        injection q1 with q1
        subst q1
        rw [hl] at q2
        have q2 := q2.bytes
        subst q2
        intro k v hv
        have := q4 k v hv
        exact ⟨L.g, L.d + off, rfl, World.block_lt_of_cell? w' _ this, this⟩
    simp [execOp, ho, hr, key _ _ this]
theorem grd_str0 {src dst e z by_ : Nat} {zr : List Value} {i2 i3 : TyI} (hT : T.ok P) (ho : o.op = .convert src dst x) (ht : T src = some i) (hd : i.d = .slice e z by_ zr) (hte : T e = some i3) (hde : i3.d = .int .u8) (ht2 : T dst = some i2) (hd2 : i2.d = .str)
    (hx : geval env x = some (.slice none 0 0)) : GRd P o env H (.string ⟨#[]⟩) [] :=
  .pure fun μ N a he => by
    have h3 := (he.eval hx).plain_eq rfl
    refine ⟨_, .string _, fun w => ?_⟩
    have := run_string_rd (P := P) w src dst e (Tab.slice hT ht hd).1 (Tab.int hT hte hde) (Tab.str hT ht2 hd2) 0 0 [] rfl (Rd.nil_ w 0 none)
    simp [execOp, ho, h3, this]
theorem grd_max {k : IntKind} {a b : Int} {ts : Array TypeId} (ho : o.op = .call { callee := .builtin .max, args := #[x, y], argTypes := ts }) (hx : geval env x = some (.int k a)) (hy : geval env y = some (.int k b)) : GRd P o env H (.int k (max a b)) [] :=
  .pure fun μ N ac he => by
    have h1 := (he.eval hx).plain_eq rfl
    have h2 := (he.eval hy).plain_eq rfl
    exact ⟨_, .int _ _, fun w => by simp [execOp, ho, resolve, invoke, builtin, h1, h2, max_int2]⟩
theorem grd_min {k : IntKind} {a b : Int} {ts : Array TypeId} (ho : o.op = .call { callee := .builtin .min, args := #[x, y], argTypes := ts }) (hx : geval env x = some (.int k a)) (hy : geval env y = some (.int k b)) : GRd P o env H (.int k (min a b)) [] :=
  .pure fun μ N ac he => by
    have h1 := (he.eval hx).plain_eq rfl
    have h2 := (he.eval hy).plain_eq rfl
    exact ⟨_, .int _ _, fun w => by simp [execOp, ho, resolve, invoke, builtin, h1, h2, min_int2]⟩
theorem grd_iface {v : Value} (hd : ∀ d, P.underlying t = some d → (match d with | .interface _ => false | _ => true) = true) (hu : (P.underlying t).isSome = true) (ho : o.op = .makeInterface t x) (hx : geval env x = some v) : GRd P o env H (.iface t v) [] :=
  .pure fun μ N a he => by
    refine ⟨.iface t (a.eval x), .iface t (he.eval hx), fun w => ?_⟩
    cases hp : P.underlying t with
    | none => rw [hp] at hu; cases hu
    | some d =>
      have := hd d hp
      simp only [execOp, ho, Instr.makeInterface, Sem.run_bind, run_underlying hp, Result.andThen_ok]
      cases d <;> first | rfl | cases this
/-- A bound of a slice expression. -/
def gbound (env : Env) (x : Option Operand) (dflt v : Nat) : Prop := match x with
  | none => v = dflt
  | some y => ∃ k : IntKind, geval env y = some (.int k (v : Int))
theorem gbound_real {μ : Ren} {N : Nat} {a : Act} {bd : Option Operand} {dflt v : Nat} (he : ER μ N env a) (h : gbound env bd dflt v) : (bd = none ∧ v = dflt) ∨ ∃ y k, bd = some y ∧ a.eval y = .int k (v : Int) := by
  cases bd with
  | none => exact .inl ⟨rfl, h⟩
  | some y =>
    obtain ⟨k, h⟩ := h
    exact .inr ⟨y, k, rfl, (he.eval h).plain_eq rfl⟩
/-- What the bounds come to. -/
theorem run_bounds {μ : Ren} {N : Nat} {a : Act} {lo hi mx : Option Operand} {len cap l h m : Nat} (isS : Bool) (he : ER μ N env a) (hl : gbound env lo 0 l) (hh : gbound env hi len h) (hm : gbound env mx cap m) (hmx : mx.isSome = true → hi.isSome = true) (h1 : l ≤ h) (h2 : h ≤ m) (h3 : m ≤ cap) (w : World) :
    (Instr.sliceBounds isS len cap (lo.map a.eval) (hi.map a.eval) (mx.map a.eval)).run P w = .ok (l, h, m) w := by
  rcases gbound_real he hl with ⟨rfl, rfl⟩ | ⟨yl, kl, rfl, el⟩ <;> rcases gbound_real he hh with ⟨rfl, rfl⟩ | ⟨yh, kh, rfl, eh⟩ <;> rcases gbound_real he hm with ⟨rfl, rfl⟩ | ⟨ym, km, rfl, em⟩ <;>
    simp_all [Instr.sliceBounds, Instr.sliceBound, asIntOf]
theorem grd_slice {j off n c e z by_ l h m : Nat} {zr : List Value} {lo hi mx : Option Operand} (hT : T.ok P) (ho : o.op = .slice t x lo hi mx) (ht : T t = some i) (hd : i.d = .slice e z by_ zr) (hx : geval env x = some (.slice (some ⟨j, off, none⟩) n c))
    (hl : gbound env lo 0 l) (hh : gbound env hi n h) (hm : gbound env mx c m) (hmx : mx.isSome = true → hi.isSome = true) (h1 : l ≤ h) (h2 : h ≤ m) (h3 : m ≤ c) (hc : c < capU) : GRd P o env H (.slice (some ⟨j, off + l * z, none⟩) (h - l) (m - l)) [] :=
  .pure fun μ N a he => by
    have hv := he.eval hx
    generalize hr : a.eval x = r at hv
    cases hv with
    | sl hL hn hmm hcc hu ha =>
      rename_i c' a' L
      obtain rfl := hcc hc
      refine ⟨.slice (if m = l then some a' else (some a').map (·.add (l * z))) (h - l) (m - l), ?_, fun w => ?_⟩
      · by_cases e : m = l
        · subst e
          rw [if_pos rfl]
          exact .sl hL (by omega) (by omega) (fun _ => rfl) (fun h => by omega) (fun h => by omega)
        · rw [if_neg e]
          exact .sl hL (by omega) (by omega) (fun _ => rfl) (fun h => by omega) (fun h => by rw [ha (by omega)]; exact (addr_add _ _ _).trans (by rw [Nat.add_assoc]))
      · obtain ⟨q1, ti, q2, q3, _⟩ := Tab.slice hT ht hd
        have hb := run_bounds (P := P) (cap := c') true he hl hh hm hmx h1 h2 h3 w
        simp [execOp, ho, hr, Instr.sliceAt, run_underlying q1, Instr.slice, hb, run_size q2, q3]
theorem grd_sliceU {j off n c e z by_ l h : Nat} {zr : List Value} {lo hi : Option Operand} {b : Blk} (hT : T.ok P) (ho : o.op = .slice t x lo hi none) (ht : T t = some i) (hd : i.d = .slice e z by_ zr) (hx : geval env x = some (.slice (some ⟨j, off, none⟩) n c))
    (hl : gbound env lo 0 l) (hh : gbound env hi n h) (h1 : l ≤ h) (h2 : h ≤ n) (hc : capU ≤ c) (hb : H.at j = some b) (hz : b.z = z) : GRd P o env H (.slice (some ⟨j, off + l * z, none⟩) (h - l) capU) [] := fun μ N a w hs he => by
  have hv := he.eval hx
  generalize hr : a.eval x = r at hv
  obtain ⟨M, _, _, _, q0, qz, _⟩ := hs.dom j b hb
  cases hv with
  | sl hL hn hmm hcc hu ha =>
    rename_i c' a' L
    rw [q0] at hL
    injection hL with hL
    subst hL
    have hu := hu hc
    have hmul : off + l * z + (c' - l) * z = off + c' * z := by
      rw [Nat.add_assoc, ← Nat.add_mul]
      congr 2
      omega
    have hu2 : capU ≤ capU → M.d + (off + l * z) + (c' - l) * M.z ≤ M.S := fun _ => by
      rw [qz, hz]
      rw [qz, hz] at hu
      omega
    refine ⟨.slice (if c' = l then some a' else (some a').map (·.add (l * z))) (h - l) (c' - l), ?_, fun w' _ => ?_⟩
    · by_cases e : c' = l
      · subst e
        rw [if_pos rfl]
        exact .sl q0 (by omega) (by omega) (fun h => by unfold capU at h; omega) hu2 (fun h => by omega)
      · rw [if_neg e]
        exact .sl q0 (by omega) (by omega) (fun h => by unfold capU at h; omega) hu2 (fun h => by rw [ha (by omega)]; exact (addr_add _ _ _).trans (by rw [Nat.add_assoc]))
    · obtain ⟨q1, ti, q2, q3, _⟩ := Tab.slice hT ht hd
      have hb := run_bounds (P := P) (mx := none) (cap := c') (m := c') true he hl hh rfl (fun h => by cases h) h1 (by omega) (Nat.le_refl _) w'
      simp only [Option.map_none] at hb
      simp [execOp, ho, hr, Instr.sliceAt, run_underlying q1, Instr.slice, hb, run_size q2, q3]
theorem grd_sliceUmax {j off n c e z by_ l h m : Nat} {zr : List Value} {lo hi : Option Operand} {mx : Operand} (hT : T.ok P) (ho : o.op = .slice t x lo hi (some mx)) (ht : T t = some i) (hd : i.d = .slice e z by_ zr) (hx : geval env x = some (.slice (some ⟨j, off, none⟩) n c))
    (hl : gbound env lo 0 l) (hh : gbound env hi n h) (hm : gbound env (some mx) 0 m) (hmx : hi.isSome = true) (h1 : l ≤ h) (h2 : h ≤ m) (h3 : m ≤ n) : GRd P o env H (.slice (some ⟨j, off + l * z, none⟩) (h - l) (m - l)) [] :=
  .pure fun μ N a he => by
    have hv := he.eval hx
    generalize hr : a.eval x = r at hv
    cases hv with
    | sl hL hn hmm hcc hu ha =>
      rename_i c' a' L
      have hmc : m - l < capU := by unfold maxLen at hmm; unfold capU; omega
      refine ⟨.slice (if m = l then some a' else (some a').map (·.add (l * z))) (h - l) (m - l), ?_, fun w => ?_⟩
      · by_cases e : m = l
        · subst e
          rw [if_pos rfl]
          exact .sl hL (by omega) (by omega) (fun _ => rfl) (fun h => by omega) (fun h => by omega)
        · rw [if_neg e]
          exact .sl hL (by omega) (by omega) (fun _ => rfl) (fun h => by omega) (fun h => by rw [ha (by omega)]; exact (addr_add _ _ _).trans (by rw [Nat.add_assoc]))
      · obtain ⟨q1, ti, q2, q3, _⟩ := Tab.slice hT ht hd
        have hb := run_bounds (P := P) (cap := c') (mx := some mx) true he hl hh hm (fun _ => hmx) h1 h2 (by omega) w
        simp only [Option.map_some] at hb
        simp [execOp, ho, hr, Instr.sliceAt, run_underlying q1, Instr.slice, hb, run_size q2, q3]
theorem grd_slice0 {e z by_ : Nat} {zr : List Value} {lo hi mx : Option Operand} (hT : T.ok P) (ho : o.op = .slice t x lo hi mx) (ht : T t = some i) (hd : i.d = .slice e z by_ zr) (hx : geval env x = some (.slice none 0 0))
    (hl : gbound env lo 0 0) (hh : gbound env hi 0 0) (hm : gbound env mx 0 0) (hmx : mx.isSome = true → hi.isSome = true) : GRd P o env H (.slice none 0 0) [] :=
  .pure fun μ N a he => by
    have hr := (he.eval hx).plain_eq rfl
    refine ⟨_, .sl0, fun w => ?_⟩
    obtain ⟨q1, ti, q2, q3, _⟩ := Tab.slice hT ht hd
    have hb := run_bounds (P := P) (cap := 0) true he hl hh hm hmx (Nat.le_refl _) (Nat.le_refl _) (Nat.le_refl _) w
    simp [execOp, ho, hr, Instr.sliceAt, run_underlying q1, Instr.slice, hb, run_size q2, q3]
theorem grd_sliceA {j off n e z l h m : Nat} {lo hi mx : Option Operand} (hT : T.ok P) (ho : o.op = .slice t x lo hi mx) (ht : T t = some i) (hd : i.d = .arr n e z) (hx : geval env x = some (.pointer (some ⟨j, off, none⟩)))
    (hl : gbound env lo 0 l) (hh : gbound env hi n h) (hm : gbound env mx n m) (hmx : mx.isSome = true → hi.isSome = true) (h1 : l ≤ h) (h2 : h ≤ m) (h3 : m ≤ n) (hn : n ≤ maxLen) : GRd P o env H (.slice (some ⟨j, off + l * z, none⟩) (h - l) (m - l)) [] :=
  .pure fun μ N a he => by
    have hv := he.eval hx
    generalize hr : a.eval x = r at hv
    cases hv with
    | ptr hL =>
      rename_i L
      have hmc : m - l < capU := by unfold maxLen at hn; unfold capU; omega
      refine ⟨.slice (some (if m = l then ⟨L.g, L.d + off, none⟩ else (⟨L.g, L.d + off, none⟩ : Addr).add (l * z))) (h - l) (m - l), ?_, fun w => ?_⟩
      · by_cases e : m = l
        · subst e
          rw [if_pos rfl]
          exact .sl hL (by omega) (by omega) (fun _ => rfl) (fun h => by omega) (fun h => by omega)
        · rw [if_neg e]
          exact .sl hL (by omega) (by omega) (fun _ => rfl) (fun h => by omega) (fun h => by rw [addr_add, Nat.add_assoc])
      · obtain ⟨q1, ti, q2, q3⟩ := Tab.arr hT ht hd
        have hb := run_bounds (P := P) (cap := n) false he hl hh hm hmx h1 h2 h3 w
        simp [execOp, ho, hr, Instr.sliceAt, run_underlying q1, Instr.sureAddr, hb, run_size q2, q3]
theorem grd_sliceS {s : ByteArray} {l h : Nat} {lo hi : Option Operand} (hT : T.ok P) (ho : o.op = .slice t x lo hi none) (ht : T t = some i) (hd : i.d = .str) (hx : geval env x = some (.string s))
    (hl : gbound env lo 0 l) (hh : gbound env hi s.size h) (h1 : l ≤ h) (h2 : h ≤ s.size) : GRd P o env H (.string (s.extract l h)) [] :=
  .pure fun μ N a he => by
    have hr := (he.eval hx).plain_eq rfl
    refine ⟨_, .string _, fun w => ?_⟩
    have hb := run_bounds (P := P) (mx := none) (cap := s.size) (m := s.size) false he hl hh rfl (fun h => by cases h) h1 h2 (Nat.le_refl _) w
    simp only [Option.map_none] at hb
    simp [execOp, ho, hr, Instr.sliceAt, run_underlying (Tab.str hT ht hd), Instr.slice, hb]
theorem grd_sliceAll {j n e z : Nat} (hT : T.ok P) (ho : o.op = .slice t x none none none) (ht : T t = some i) (hd : i.d = .arr n e z) (hx : geval env x = some (.pointer (some ⟨j, 0, none⟩))) (hn : n ≤ maxLen) : GRd P o env H (.slice (some ⟨j, 0, none⟩) n n) [] := by
  have h := grd_sliceA (H := H) (l := 0) (h := n) (m := n) (lo := none) (hi := none) (mx := none) hT ho ht hd hx rfl rfl rfl (fun h => by cases h) (Nat.zero_le _) (Nat.le_refl _) (Nat.le_refl _) hn
  simpa using h
end
end Go.Proofs.Ytcbngjpihcemiaa
