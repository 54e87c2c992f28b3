/- The ghost heap: values up to a renaming of blocks; no program in sight. -/
import Derived.Test.YtcbngjpihcemiaaWd
namespace Go.Proofs.Ytcbngjpihcemiaa
open Go.RowKit

/-- From here on a capacity is not known. -/
def capU : Nat := 9223372036854775808

/-- Ghost and real value, up to a renaming of blocks: the real block, an offset in it, its size, and how many cells an element has. -/
structure Loc where
  g : Nat
  d : Nat
  S : Nat
  z : Nat
abbrev Ren := Nat → Option Loc
mutual
inductive VR (μ : Ren) : Value → Value → Prop
  | bool (b : Bool) : VR μ (.bool b) (.bool b)
  | int (k : IntKind) (n : Int) : VR μ (.int k n) (.int k n)
  | string (s : ByteArray) : VR μ (.string s) (.string s)
  | ptr0 : VR μ (.pointer none) (.pointer none)
  | ptr {i o : Nat} {L : Loc} (h : μ i = some L) : VR μ (.pointer (some ⟨i, o, none⟩)) (.pointer (some ⟨L.g, L.d + o, none⟩))
  | sl0 : VR μ (.slice none 0 0) (.slice none 0 0)
  | sl {i o n c c' : Nat} {a : Addr} {L : Loc} (h : μ i = some L) (hn : n ≤ c') (hm : c' ≤ maxLen) (hc : c < capU → c' = c) (hu : capU ≤ c → L.d + o + c' * L.z ≤ L.S) (ha : 0 < c' → a = ⟨L.g, L.d + o, none⟩) : VR μ (.slice (some ⟨i, o, none⟩) n c) (.slice (some a) n c')
  | nilFunc : VR μ .nilFunc .nilFunc
  | map0 : VR μ (.map none) (.map none)
  | nilIface : VR μ .nilIface .nilIface
  | iface {v v' : Value} (t : TypeId) (h : VR μ v v') : VR μ (.iface t v) (.iface t v')
  | agg {a b : Array Value} (h : VRs μ a.toList b.toList) : VR μ (.agg a) (.agg b)
  | tuple {a b : Array Value} (h : VRs μ a.toList b.toList) : VR μ (.tuple a) (.tuple b)
  | func {a b c d : Array Value} (fn : Fn) (h : VRs μ a.toList b.toList) (h2 : VRs μ c.toList d.toList) : VR μ (.func fn a c) (.func fn b d)
inductive VRs (μ : Ren) : List Value → List Value → Prop
  | nil : VRs μ [] []
  | cons {v v' : Value} {l l' : List Value} (h : VR μ v v') (hs : VRs μ l l') : VRs μ (v :: l) (v' :: l')
end
/-- One renaming goes on as another. -/
def Ext' (μ ν : Ren) : Prop := ∀ i x, μ i = some x → ν i = some x
theorem Ext'.refl (μ : Ren) : Ext' μ μ := fun _ _ h => h
theorem Ext'.trans {μ ν ξ : Ren} (h : Ext' μ ν) (k : Ext' ν ξ) : Ext' μ ξ := fun i x hx => k i x (h i x hx)

mutual
theorem VR.mono {μ ν : Ren} (he : Ext' μ ν) : ∀ {v v' : Value}, VR μ v v' → VR ν v v'
  | _, _, .bool b => .bool b
  | _, _, .int k n => .int k n
  | _, _, .string s => .string s
  | _, _, .ptr0 => .ptr0
  | _, _, .ptr h => .ptr (he _ _ h)
  | _, _, .sl0 => .sl0
  | _, _, .sl h hn hm hc hu ha => .sl (he _ _ h) hn hm hc hu ha
  | _, _, .nilFunc => .nilFunc
  | _, _, .map0 => .map0
  | _, _, .nilIface => .nilIface
  | _, _, .iface t h => .iface t (VR.mono he h)
  | _, _, .agg h => .agg (VRs.mono he h)
  | _, _, .tuple h => .tuple (VRs.mono he h)
  | _, _, .func fn h h2 => .func fn (VRs.mono he h) (VRs.mono he h2)
theorem VRs.mono {μ ν : Ren} (he : Ext' μ ν) : ∀ {l l' : List Value}, VRs μ l l' → VRs ν l l'
  | _, _, .nil => .nil
  | _, _, .cons h hs => .cons (VR.mono he h) (VRs.mono he hs)
end

section
variable {μ : Ren}
theorem VRs.length {l l' : List Value} (h : VRs μ l l') : l.length = l'.length := by
  induction l generalizing l' with
  | nil => cases h; rfl
  | cons v l ih => cases h with
    | cons _ hs => simp [ih hs]
theorem VRs.get {l l' : List Value} (h : VRs μ l l') : ∀ (j : Nat) (v : Value), l[j]? = some v → ∃ v', l'[j]? = some v' ∧ VR μ v v' := by
  induction l generalizing l' with
  | nil => intro j v hj; simp at hj
  | cons u l ih =>
    cases h with
    | cons hu hs =>
      intro j v hj
      cases j with
      | zero => simp at hj; subst hj; exact ⟨_, rfl, hu⟩
      | succ j => exact ih hs j v (by simpa using hj)
theorem VRs.of_get : ∀ {l l' : List Value}, l.length = l'.length → (∀ (j : Nat) (v v' : Value), l[j]? = some v → l'[j]? = some v' → VR μ v v') → VRs μ l l'
  | [], [], _, _ => .nil
  | v :: l, v' :: l', h, hk => .cons (hk 0 v v' rfl rfl) (VRs.of_get (by simpa using h) fun j u u' hu hu' => hk (j + 1) u u' (by simpa using hu) (by simpa using hu'))
theorem VRs.append {a a' b b' : List Value} (h : VRs μ a a') (k : VRs μ b b') : VRs μ (a ++ b) (a' ++ b') := by
  induction a generalizing a' with
  | nil => cases h; exact k
  | cons v a ih => cases h with
    | cons hv hs => exact .cons hv (ih hs)
theorem VRs.take {a a' : List Value} (h : VRs μ a a') (n : Nat) : VRs μ (a.take n) (a'.take n) := by
  induction a generalizing a' n with
  | nil => cases h; simp; exact .nil
  | cons v a ih => cases h with
    | cons hv hs => cases n with
      | zero => exact .nil
      | succ n => exact .cons hv (ih hs n)
theorem VRs.drop {a a' : List Value} (h : VRs μ a a') (n : Nat) : VRs μ (a.drop n) (a'.drop n) := by
  induction a generalizing a' n with
  | nil => cases h; simp; exact .nil
  | cons v a ih => cases h with
    | cons hv hs => cases n with
      | zero => exact .cons hv hs
      | succ n => exact ih hs n
theorem VRs.set {a a' : List Value} {v v' : Value} (h : VRs μ a a') (n : Nat) (hv : VR μ v v') : VRs μ (a.set n v) (a'.set n v') := by
  induction a generalizing a' n with
  | nil => cases h; exact .nil
  | cons u a ih => cases h with
    | cons hu hs => cases n with
      | zero => exact .cons hv hs
      | succ n => exact .cons hu (ih hs n)
theorem VRs.replicate {v v' : Value} (h : VR μ v v') : ∀ n, VRs μ (List.replicate n v) (List.replicate n v')
  | 0 => .nil
  | n + 1 => .cons h (VRs.replicate h n)
theorem VR.cells {v v' : Value} (h : VR μ v v') : VRs μ v.cells.toList v'.cells.toList := by
  cases h <;> first | assumption | exact .cons (by constructor <;> assumption) .nil | exact .cons (by constructor) .nil | skip
/-- What bears no address is itself. -/
def plainB : Value → Bool
  | .bool _ | .int _ _ | .string _ | .pointer none | .slice none 0 0 | .nilFunc | .nilIface | .map none => true
  | _ => false
theorem VR.plain {v : Value} (h : plainB v = true) : VR μ v v := by
  unfold plainB at h
  split at h <;> first | exact absurd h Bool.false_ne_true | constructor
theorem VR.plain_eq {v v' : Value} (h : VR μ v v') (hp : plainB v = true) : v' = v := by
  unfold plainB at hp
  split at hp <;> first | exact absurd hp Bool.false_ne_true | (cases h; rfl)
theorem VRs.plain : ∀ {l : List Value}, (∀ v ∈ l, plainB v = true) → VRs μ l l
  | [], _ => .nil
  | v :: l, h => .cons (VR.plain (h v (by simp))) (VRs.plain fun u hu => h u (by simp [hu]))
theorem VRs.plain_eq {l l' : List Value} (h : VRs μ l l') (hp : ∀ v ∈ l, plainB v = true) : l' = l := by
  induction l generalizing l' with
  | nil => cases h; rfl
  | cons v l ih => cases h with
    | cons hv hs => rw [hv.plain_eq (hp v (by simp)), ih hs fun u hu => hp u (by simp [hu])]
theorem vb_plain (l : List UInt8) : ∀ v ∈ vb l, plainB v = true := by
  intro v hv
  simp only [vb, List.mem_map] at hv
  obtain ⟨c, _, rfl⟩ := hv
  rfl
theorem VRs.bytes {l : List UInt8} {l' : List Value} (h : VRs μ (vb l) l') : l' = vb l := h.plain_eq (vb_plain l)
theorem VR.one {v v' : Value} (h : VR μ v v') (h1 : v.oneCell' = true) : v'.oneCell' = true := by
  cases h <;> first | rfl | exact h1
theorem VRs.one {l l' : List Value} (h : VRs μ l l') (h1 : ∀ v ∈ l, v.oneCell' = true) : ∀ v ∈ l', v.oneCell' = true := by
  induction l generalizing l' with
  | nil => cases h; simp
  | cons u l ih => cases h with
    | cons hv hs =>
      intro v hm
      rcases List.mem_cons.1 hm with rfl | hm
      · exact hv.one (h1 u (by simp))
      · exact ih hs (fun x hx => h1 x (by simp [hx])) v hm
end

@[simp] theorem vb_len_ (l : List UInt8) : (vb l).length = l.length := vb_length l
/-- A block of the ghost heap: its type, how many cells an element has, its cells, and whether it may be written. -/
structure Blk where
  t : TypeId
  z : Nat
  cs : List Value
  rw : Bool
/-- A heap; a block that isn't there any more, or not known, is none. -/
abbrev Hp := List (Option Blk)
def Hp.at (H : Hp) (i : Nat) : Option Blk := (H[i]?).getD none
def Hp.put (H : Hp) (i : Nat) (b : Blk) : Hp := H.set i (some b)
def Hp.kill (H : Hp) (i : Nat) : Hp := H.set i none
def Hp.push (H : Hp) (b : Blk) : Hp := H ++ [some b]
section
variable {H : Hp} {i j : Nat} {b c : Blk}
theorem Hp.at_lt (h : H.at i = some b) : i < H.length := by
  unfold Hp.at at h
  rcases Nat.lt_or_ge i H.length with h1 | h1
  · exact h1
  · rw [List.getElem?_eq_none h1] at h
    cases h
theorem Hp.at_put_eq (h : i < H.length) : (H.put i b).at i = some b := by
  unfold Hp.at Hp.put
  rw [List.getElem?_set_self h]
  rfl
theorem Hp.at_put_ne (h : i ≠ j) : (H.put i b).at j = H.at j := by
  unfold Hp.at Hp.put
  rw [List.getElem?_set_ne h]
theorem Hp.at_kill_eq : (H.kill i).at i = none := by
  unfold Hp.at Hp.kill
  rcases Nat.lt_or_ge i H.length with h1 | h1
  · rw [List.getElem?_set_self h1]
    rfl
  · rw [List.getElem?_eq_none (by simpa using h1)]
    rfl
theorem Hp.at_kill_ne (h : i ≠ j) : (H.kill i).at j = H.at j := by
  unfold Hp.at Hp.kill
  rw [List.getElem?_set_ne h]
theorem Hp.at_push_lt (h : j < H.length) : (H.push b).at j = H.at j := by
  unfold Hp.at Hp.push
  rw [List.getElem?_append_left h]
theorem Hp.at_push_eq : (H.push b).at H.length = some b := by
  unfold Hp.at Hp.push
  simp
theorem Hp.at_app_lt {G : Hp} (h : j < H.length) : Hp.at (H ++ G) j = H.at j := by
  unfold Hp.at
  rw [List.getElem?_append_left h]
@[simp] theorem Hp.len_put : (H.put i b).length = H.length := by simp [Hp.put]
@[simp] theorem Hp.len_kill : (H.kill i).length = H.length := by simp [Hp.kill]
@[simp] theorem Hp.len_push : (H.push b).length = H.length + 1 := by simp [Hp.push]
theorem Hp.ne (h : H.at i = some b) (k : H.at j = some c) (hne : b.t ≠ c.t) : i ≠ j := by
  rintro rfl
  rw [h] at k
  injection k with k
  exact hne (by rw [k])
end

/-- What the frame holds, the latest first. -/
abbrev Env := List (Nat × Value)
def Env.get : Env → Nat → Option Value
  | [], _ => none
  | (s, v) :: e, t => cond (Nat.beq s t) (some v) (Env.get e t)
theorem Env.get_cons_eq' (s : Nat) (v : Value) (e : Env) : Env.get ((s, v) :: e) s = some v := by simp [Env.get]
theorem Env.sub_nil {env : Env} : ∀ (s : Nat) (v : Value), Env.get [] s = some v → env.get s = some v := fun _ _ h => by cases h
theorem Env.sub_cons {s : Nat} {v : Value} {e env : Env} (h : env.get s = some v) (k : ∀ (t : Nat) (u : Value), e.get t = some u → env.get t = some u) : ∀ (t : Nat) (u : Value), Env.get ((s, v) :: e) t = some u → env.get t = some u := fun t u hu => by
  unfold Env.get at hu
  cases hb : Nat.beq s t with
  | true =>
    rw [hb] at hu
    have := Nat.eq_of_beq_eq_true hb
    subst this
    injection hu with hu
    rw [← hu]
    exact h
  | false =>
    rw [hb] at hu
    exact k t u hu
/-- Frame and ghost frame. -/
structure ER (μ : Ren) (N : Nat) (env : Env) (a : Act) : Prop where
  size : a.tmps.size = N
  defers : a.defers = []
  val : ∀ s v, env.get s = some v → ∃ v', a.tmps[s]? = some v' ∧ VR μ v v'
section
variable {μ ν : Ren} {N : Nat} {env : Env} {a : Act}
theorem ER.mono (h : ER μ N env a) (he : Ext' μ ν) : ER ν N env a :=
  ⟨h.size, h.defers, fun s v hs => let ⟨v', h1, h2⟩ := h.val s v hs; ⟨v', h1, h2.mono he⟩⟩
theorem Env.get_cons_eq (s : Nat) (v : Value) (e : Env) : Env.get ((s, v) :: e) s = some v := by
  simp [Env.get]
theorem Env.get_cons_ne {s t : Nat} (v : Value) (e : Env) (h : s ≠ t) : Env.get ((s, v) :: e) t = Env.get e t := by
  have : Nat.beq s t = false := by
    cases hb : Nat.beq s t with
    | true => exact absurd (Nat.eq_of_beq_eq_true hb) h
    | false => rfl
  simp [Env.get, this]
theorem ER.put (h : ER μ N env a) {d : Nat} (hd : d < N) {v v' : Value} (hv : VR μ v v') : ER μ N ((d, v) :: env) (a.put (some d) v') := by
  refine ⟨by simp [Act.put, h.size], h.defers, fun s u hs => ?_⟩
  by_cases e : d = s
  · subst e
    rw [Env.get_cons_eq] at hs
    injection hs with hs
    subst hs
    refine ⟨v', ?_, hv⟩
    simp [Act.put, h.size, hd]
  · rw [Env.get_cons_ne _ _ e] at hs
    obtain ⟨w, h1, h2⟩ := h.val s u hs
    refine ⟨w, ?_, h2⟩
    simp only [Act.put]
    rw [Array.getElem?_setIfInBounds_ne e]
    exact h1
theorem ER.sub {env' : Env} (h : ER μ N env a) (hs : ∀ s v, env'.get s = some v → env.get s = some v) : ER μ N env' a :=
  ⟨h.size, h.defers, fun s v hv => h.val s v (hs s v hv)⟩
/-- An operand, on the ghost side. -/
def geval (env : Env) : Operand → Option Value
  | .tmp t => env.get t
  | .const v => cond (plainB v) (some v) none
  | .func f => some (.func (.func f) #[] #[])
  | _ => none
theorem ER.eval (h : ER μ N env a) {x : Operand} {v : Value} (hx : geval env x = some v) : VR μ v (a.eval x) := by
  cases x with
  | tmp t =>
    obtain ⟨v', h1, h2⟩ := h.val t v hx
    simp only [Act.eval, Array.getD_eq_getD_getElem?, h1, Option.getD_some]
    exact h2
  | const u =>
    simp only [geval] at hx
    cases hp : plainB u with
    | false => rw [hp] at hx; cases hx
    | true =>
      rw [hp] at hx
      injection hx with hx
      subst hx
      exact VR.plain hp
  | func f =>
    injection hx with hx
    subst hx
    exact .func _ .nil .nil
  | global g => cases hx
end
end Go.Proofs.Ytcbngjpihcemiaa
