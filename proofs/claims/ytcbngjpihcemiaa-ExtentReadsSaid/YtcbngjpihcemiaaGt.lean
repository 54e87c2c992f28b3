/- The ghost walk: a program's types, in a table. Over any program. -/
import Derived.Test.YtcbngjpihcemiaaGc
namespace Go.Proofs.Ytcbngjpihcemiaa
open Go.RowKit

/-- What a type is. -/
inductive GD where
  | int (k : IntKind)
  | bool
  | str
  | ptr (e : TypeId)
  | slice (e : TypeId) (z bytes : Nat) (zero : List Value)
  | arr (n : Nat) (e : TypeId) (z : Nat)
  | struct (fs : List (Nat × TypeId × Nat))
  | iface
  | func
  | other
/-- A plain cell. -/
inductive CK where
  | int (k : IntKind)
  | bool
  | str
def ckEq : CK → CK → Bool
  | .int k, .int l => k == l
  | .bool, .bool => true
  | .str, .str => true
  | _, _ => false
def cksEq : List CK → List CK → Bool
  | [], [] => true
  | a :: l, b :: m => ckEq a b && cksEq l m
  | _, _ => false
theorem cksEq_eq : ∀ {l m : List CK}, cksEq l m = true → l = m
  | [], [], _ => rfl
  | a :: l, b :: m, h => by
    simp only [cksEq, Bool.and_eq_true] at h
    obtain ⟨h1, h2⟩ := h
    rw [cksEq_eq h2]
    cases a <;> cases b <;> simp_all [ckEq]
  | [], _ :: _, h => by cases h
  | _ :: _, [], h => by cases h
/-- A type of plain cells alone: which. -/
def flatF (P : Program) (g : TypeId → Option (List CK)) : List Field → Nat → Option (List CK)
  | [], _ => some []
  | f :: fs, off => bif f.offset == off && f.name != "_" then (match g f.type, P.info? f.type, flatF P g fs (off + (match P.info? f.type with | some i => i.size | none => 0)) with
    | some ks, some i, some l => bif i.size == ks.length then some (ks ++ l) else none
    | _, _, _ => none) else none
def flatT (P : Program) : Nat → TypeId → Option (List CK)
  | 0, _ => none
  | n + 1, t => match P.underlying t with
    | some (.int k) => some [.int k]
    | some .bool => some [.bool]
    | some .string => some [.str]
    | some (.array len e) => match flatT P n e, P.info? e with
      | some ks, some i => bif i.size == ks.length then some (List.replicate len ks).flatten else none
      | _, _ => none
    | some (.struct fs) => bif P.stoodInHeld t then none else flatF P (flatT P n) fs.toList 0
    | _ => none
def flatB (P : Program) (t : TypeId) (ks : List CK) : Bool := match flatT P 20 t with
  | some l => cksEq l ks && !P.eqGuardType P.depth t
  | none => false
/-- A type: cells, bytes, the zero value's cells, and what it is. -/
structure TyI where
  size : Nat
  bytes : Nat
  zero : List Value
  d : GD
  ms : List (String × FuncId) := []
  ks : List CK := []
def TyI.agg (i : TyI) : Bool := match i.d with
  | .arr .. => true
  | .struct .. => true
  | _ => false
def vEqB : Value → Value → Bool
  | .bool a, .bool b => a == b
  | .int k a, .int l b => k == l && a == b
  | .string a, .string b => a.size == 0 && b.size == 0
  | .pointer none, .pointer none => true
  | .slice none 0 0, .slice none 0 0 => true
  | .nilFunc, .nilFunc => true
  | .nilIface, .nilIface => true
  | .map none, .map none => true
  | _, _ => false
theorem vEqB_eq {a b : Value} (h : vEqB a b = true) : a = b ∧ plainB a = true := by
  unfold vEqB at h
  split at h
  · simp only [beq_iff_eq] at h; subst h; exact ⟨rfl, rfl⟩
  · simp only [Bool.and_eq_true, beq_iff_eq] at h; obtain ⟨rfl, rfl⟩ := h; exact ⟨rfl, rfl⟩
  · rename_i a b
    simp only [Bool.and_eq_true, beq_iff_eq] at h
    obtain ⟨h1, h2⟩ := h
    refine ⟨?_, rfl⟩
    obtain ⟨⟨x⟩⟩ := a
    obtain ⟨⟨y⟩⟩ := b
    simp [ByteArray.size] at h1 h2
    subst h1 h2
    rfl
  all_goals first | exact ⟨rfl, rfl⟩ | cases h
def lEqB : List Value → List Value → Bool
  | [], [] => true
  | a :: l, b :: m => vEqB a b && lEqB l m
  | _, _ => false
theorem lEqB_eq : ∀ {l m : List Value}, lEqB l m = true → l = m ∧ ∀ v ∈ l, plainB v = true
  | [], [], _ => ⟨rfl, fun v h => by cases h⟩
  | a :: l, b :: m, h => by
    simp only [lEqB, Bool.and_eq_true] at h
    obtain ⟨h1, h2⟩ := h
    obtain ⟨rfl, h3⟩ := vEqB_eq h1
    obtain ⟨rfl, h4⟩ := lEqB_eq h2
    refine ⟨rfl, fun v hv => ?_⟩
    rcases List.mem_cons.1 hv with rfl | hv
    · exact h3
    · exact h4 v hv
  | [], _ :: _, h => by cases h
  | _ :: _, [], h => by cases h
def zeroB (x : TypeInfo) (zr : List Value) : Bool := match x.zero with
  | some z => lEqB z.cells.toList zr
  | none => false
/-- Is it so? -/
def methB (P : Program) (t : TypeId) (name : String) (f : FuncId) : Bool := match P.info? t with
  | some x => match x.methods.find? (·.name == name) with
    | some m => m.path.isEmpty && (match m.func, P.underlying t with
      | some (g, true), some (.pointer _) => g == f
      | some (_, false), some (.pointer _) => false
      | some (g, false), some _ => g == f
      | _, _ => false)
    | none => false
  | none => false
/-- A method of a value, told by its row. -/
theorem method_run {P : Program} {t : TypeId} {name : String} {f : FuncId} (h : methB P t name f = true) (n : Nat) (v : Value) (w : World) : (Go.method (n + 1) t v name).run P w = .ok (f, v) w := by
  unfold methB at h
  split at h
  · rename_i x hx
    split at h
    · rename_i m hm
      simp only [Bool.and_eq_true] at h
      obtain ⟨hp, h⟩ := h
      have hp : m.path = #[] := by simpa using hp
      unfold Go.method
      split at h
      · rename_i g e hf hu
        obtain rfl : g = f := by simpa using h
        simp [typeInfo, hx, hm, hp, follow, hf, receiverAt, run_underlying hu, Place.get]
      · cases h
      · rename_i g d hnp hf hu
        obtain rfl : g = f := by simpa using h
        cases d <;> first | exact absurd rfl (hnp _) | simp [typeInfo, hx, hm, hp, follow, hf, receiverAt, run_underlying hu, Place.get]
      · cases h
    · cases h
  · cases h
def oneZB (P : Program) (t : TypeId) (i : TyI) : Bool := match i.zero with
  | [_] => i.agg || (match P.info? t with
    | some x => match x.zero with
      | some (.agg _) => false
      | _ => true
    | none => false)
  | _ => true
def tyOkB (P : Program) (t : TypeId) (i : TyI) : Bool := ((i.ms.all fun q => methB P t q.1 q.2) && oneZB P t i && (i.ks.isEmpty || flatB P t i.ks)) &&
  (match P.info? t with
    | some x => x.size == i.size && x.bytes == i.bytes && (i.zero.isEmpty || zeroB x i.zero)
    | none => false) &&
  (match P.underlying t, i.d with
    | some (.int k), .int k' => k == k'
    | some .bool, .bool => true
    | some .string, .str => true
    | some (.pointer e), .ptr e' => e == e'
    | some (.slice e), .slice e' z b zr => e == e' && (match P.info? e with
      | some x => x.size == z && x.bytes == b && z == zr.length && zeroB x zr
      | none => false)
    | some (.array n e), .arr n' e' z => n == n' && e == e' && (match P.info? e with
      | some x => x.size == z
      | none => false)
    | some (.struct fs), .struct gs => fs.size == gs.length && (fs.toList.zip gs).all fun (f, g) => f.offset == g.1 && f.type == g.2.1 && g.2.2 != 0 && (match P.info? f.type with
      | some x => x.size == g.2.2
      | none => false)
    | some (.interface _), .iface => true
    | some (.func ..), .func => true
    | some (.map ..), .other => true
    | some (.tuple ..), .other => true
    | _, _ => false)
abbrev Tab := Nat → Option TyI
def Tab.ok (P : Program) (T : Tab) : Prop := ∀ t i, T t = some i → tyOkB P t i = true
def tabOf (l : List (Nat × TyI)) : Tab := fun t => match l with
  | [] => none
  | (s, i) :: l => cond (Nat.beq s t) (some i) (tabOf l t)
theorem tab_ok {P : Program} : ∀ {l : List (Nat × TyI)}, (l.all fun p => tyOkB P p.1 p.2) = true → (tabOf l).ok P
  | [], _, t, i, h => by simp [tabOf] at h
  | (s, j) :: l, hl, t, i, h => by
    simp only [List.all_cons, Bool.and_eq_true] at hl
    unfold tabOf at h
    cases hb : Nat.beq s t with
    | true =>
      rw [hb] at h
      injection h with h
      subst h
      rw [← Nat.eq_of_beq_eq_true hb]
      exact hl.1
    | false =>
      rw [hb] at h
      exact tab_ok hl.2 t i h

section
variable {P : Program} {T : Tab} {t : TypeId} {i : TyI}
theorem Tab.size (hT : T.ok P) (h : T t = some i) : ∃ x, P.info? t = some x ∧ x.size = i.size ∧ x.bytes = i.bytes ∧ (i.zero ≠ [] → ∃ z, x.zero = some z ∧ z.cells.toList = i.zero ∧ ∀ v ∈ i.zero, plainB v = true) := by
  have h1 := hT t i h
  simp only [tyOkB, Bool.and_eq_true] at h1
  replace h1 := And.intro h1.1.2 h1.2
  obtain ⟨h1, _⟩ := h1
  split at h1
  · rename_i x hx
    simp only [Bool.and_eq_true, beq_iff_eq, Bool.or_eq_true] at h1
    obtain ⟨⟨h2, h3⟩, h4⟩ := h1
    refine ⟨x, hx, h2, h3, fun hne => ?_⟩
    rcases h4 with h4 | h4
    · exact absurd (List.isEmpty_iff.1 h4) hne
    · unfold zeroB at h4
      split at h4
      · rename_i z hz
        obtain ⟨h5, h6⟩ := lEqB_eq h4
        exact ⟨z, hz, h5, fun v hv => h6 v (by rw [h5]; exact hv)⟩
      · cases h4
  · cases h1
theorem Tab.snd (hT : T.ok P) (h : T t = some i) : (match P.underlying t, i.d with
    | some (.int k), .int k' => k == k'
    | some .bool, .bool => true
    | some .string, .str => true
    | some (.pointer e), .ptr e' => e == e'
    | some (.slice e), .slice e' z b zr => e == e' && (match P.info? e with
      | some x => x.size == z && x.bytes == b && z == zr.length && zeroB x zr
      | none => false)
    | some (.array n e), .arr n' e' z => n == n' && e == e' && (match P.info? e with
      | some x => x.size == z
      | none => false)
    | some (.struct fs), .struct gs => fs.size == gs.length && (fs.toList.zip gs).all fun (f, g) => f.offset == g.1 && f.type == g.2.1 && g.2.2 != 0 && (match P.info? f.type with
      | some x => x.size == g.2.2
      | none => false)
    | some (.interface _), .iface => true
    | some (.func ..), .func => true
    | some (.map ..), .other => true
    | some (.tuple ..), .other => true
    | _, _ => false) = true := by
  have h1 := hT t i h
  simp only [tyOkB, Bool.and_eq_true] at h1
  replace h1 := And.intro h1.1.2 h1.2
  exact h1.2
def msGet : List (String × FuncId) → String → Option FuncId
  | [], _ => none
  | (s, f) :: l, n => bif s == n then some f else msGet l n
theorem Tab.meth (hT : T.ok P) (h : T t = some i) {name : String} {f : FuncId} (hm : msGet i.ms name = some f) : methB P t name f = true := by
  have h1 := hT t i h
  simp only [tyOkB, Bool.and_eq_true] at h1
  have h2 := h1.1.1.1.1
  revert hm h2
  generalize i.ms = l
  induction l with
  | nil => intro hm; cases hm
  | cons p l ih =>
    obtain ⟨s, g⟩ := p
    intro hm h2
    simp only [List.all_cons, Bool.and_eq_true] at h2
    unfold msGet at hm
    cases hb : s == name with
    | true =>
      rw [hb] at hm
      obtain rfl : g = f := by simpa using hm
      obtain rfl : s = name := by simpa using hb
      exact h2.1
    | false =>
      rw [hb] at hm
      exact ih hm h2.2
theorem Tab.one (hT : T.ok P) (h : T t = some i) (ha : i.agg = false) {a : Value} (hz : i.zero = [a]) : ∃ x, P.info? t = some x ∧ x.zero = some a ∧ plainB a = true := by
  obtain ⟨x, q1, q2, q3, q4⟩ := Tab.size hT h
  obtain ⟨z, q5, q6, q7⟩ := q4 (by rw [hz]; simp)
  rw [hz] at q6 q7
  have h1 := hT t i h
  simp only [tyOkB, Bool.and_eq_true] at h1
  have h2 := h1.1.1.1.2
  unfold oneZB at h2
  rw [hz, ha, q1] at h2
  simp only [q5, Bool.false_or] at h2
  refine ⟨x, q1, ?_, q7 a (by simp)⟩
  rw [q5]
  clear h1 q4 q5 q7
  cases z <;> first | (cases h2; done) | exact congrArg some (List.head_eq_of_cons_eq (show _ :: [] = a :: [] from q6))
theorem Tab.flat (hT : T.ok P) (h : T t = some i) (hk : i.ks.isEmpty = false) : flatB P t i.ks = true := by
  have h1 := hT t i h
  simp only [tyOkB, Bool.and_eq_true, Bool.or_eq_true] at h1
  rcases h1.1.1.2 with h2 | h2
  · rw [hk] at h2; cases h2
  · exact h2
theorem Tab.int (hT : T.ok P) (h : T t = some i) {k : IntKind} (hd : i.d = .int k) : P.underlying t = some (.int k) := by
  have h1 := Tab.snd hT h
  rw [hd] at h1
  split at h1 <;> simp_all
theorem Tab.str (hT : T.ok P) (h : T t = some i) (hd : i.d = .str) : P.underlying t = some .string := by
  have h1 := Tab.snd hT h
  rw [hd] at h1
  split at h1 <;> simp_all
theorem Tab.bool (hT : T.ok P) (h : T t = some i) (hd : i.d = .bool) : P.underlying t = some .bool := by
  have h1 := Tab.snd hT h
  rw [hd] at h1
  split at h1 <;> simp_all
theorem Tab.ptr (hT : T.ok P) (h : T t = some i) {e : TypeId} (hd : i.d = .ptr e) : P.underlying t = some (.pointer e) := by
  have h1 := Tab.snd hT h
  rw [hd] at h1
  split at h1 <;> simp_all
theorem Tab.slice (hT : T.ok P) (h : T t = some i) {e z b : Nat} {zr : List Value} (hd : i.d = .slice e z b zr) : P.underlying t = some (.slice e) ∧ ∃ x, P.info? e = some x ∧ x.size = z ∧ x.bytes = b ∧ z = zr.length ∧ ∃ v, x.zero = some v ∧ v.cells.toList = zr ∧ ∀ u ∈ zr, plainB u = true := by
  have h1 := Tab.snd hT h
  rw [hd] at h1
  split at h1
  all_goals try (rename_i h2; cases h2; done)
  all_goals try cases h1
  rename_i e1 e2 z2 b2 zr2 hu hd2
  injection hd2 with q1 q2 q3 q4
  subst q1 q2 q3 q4
  simp only [Bool.and_eq_true, beq_iff_eq] at h1
  obtain ⟨rfl, h1⟩ := h1
  refine ⟨hu, ?_⟩
  split at h1
  · rename_i x hx
    simp only [Bool.and_eq_true, beq_iff_eq] at h1
    obtain ⟨⟨⟨h2, h3⟩, h4⟩, h5⟩ := h1
    refine ⟨x, hx, h2, h3, h4, ?_⟩
    unfold zeroB at h5
    split at h5
    · rename_i v hv
      obtain ⟨h6, h7⟩ := lEqB_eq h5
      exact ⟨v, hv, h6, fun u hu => h7 u (by rw [h6]; exact hu)⟩
    · cases h5
  · cases h1
theorem Tab.arr (hT : T.ok P) (h : T t = some i) {n e z : Nat} (hd : i.d = .arr n e z) : P.underlying t = some (.array n e) ∧ ∃ x, P.info? e = some x ∧ x.size = z := by
  have h1 := Tab.snd hT h
  rw [hd] at h1
  split at h1
  all_goals try (rename_i h2; cases h2; done)
  all_goals try cases h1
  rename_i n1 e1 n2 e2 z2 hu hd2
  injection hd2 with q1 q2 q3
  subst q1 q2 q3
  simp only [Bool.and_eq_true, beq_iff_eq] at h1
  obtain ⟨⟨rfl, rfl⟩, h1⟩ := h1
  refine ⟨hu, ?_⟩
  split at h1
  · rename_i x hx
    exact ⟨x, hx, by simpa using h1⟩
  · cases h1
theorem Tab.struct (hT : T.ok P) (h : T t = some i) {gs : List (Nat × TypeId × Nat)} (hd : i.d = .struct gs) : ∃ fs, P.underlying t = some (.struct fs) ∧ fs.size = gs.length ∧
    ∀ (j off ty sz : Nat), gs[j]? = some (off, ty, sz) → ∃ f x, fs[j]? = some f ∧ f.offset = off ∧ f.type = ty ∧ sz ≠ 0 ∧ P.info? ty = some x ∧ x.size = sz := by
  have h1 := Tab.snd hT h
  rw [hd] at h1
  split at h1
  all_goals try (rename_i h2; cases h2; done)
  all_goals try cases h1
  rename_i fs gs2 hu hd2
  injection hd2 with q1
  subst q1
  simp only [Bool.and_eq_true, beq_iff_eq, List.all_eq_true] at h1
  obtain ⟨h2, h3⟩ := h1
  refine ⟨fs, hu, h2, fun j off ty sz hj => ?_⟩
  have hjl : j < gs.length := (List.getElem?_eq_some_iff.1 hj).1
  have hf : fs[j]? = some (fs[j]'(by omega)) := Array.getElem?_eq_getElem (by omega)
  have hz : (fs.toList.zip gs)[j]? = some (fs[j]'(by omega), (off, ty, sz)) := by
    rw [List.getElem?_zip_eq_some]
    exact ⟨by simp, hj⟩
  have h4 := h3 _ (List.mem_of_getElem? hz)
  simp only [bne_iff_ne] at h4
  obtain ⟨⟨⟨h5, h6⟩, h7⟩, h8⟩ := h4
  split at h8
  · rename_i x hx
    rw [h6] at hx
    exact ⟨_, x, hf, h5, h6, h7, hx, by simpa using h8⟩
  · cases h8
theorem Tab.notAgg (hT : T.ok P) (h : T t = some i) (ha : i.agg = false) : ∃ d, P.underlying t = some d ∧ (match d with | .struct _ => false | .array _ _ => false | _ => true) = true := by
  have h1 := Tab.snd hT h
  obtain ⟨sz, by_, zr, d⟩ := i
  cases d <;> simp only [TyI.agg] at ha h1 <;> first | (split at h1 <;> first | (rename_i hu _; exact ⟨_, hu, rfl⟩) | (rename_i hu; exact ⟨_, hu, rfl⟩) | cases h1 | (simp_all; done)) | cases ha
end
end Go.Proofs.Ytcbngjpihcemiaa
