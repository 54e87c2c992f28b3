/- The ghost walk: rows and structs of plain cells, compared. Over any program. -/
import Derived.Test.YtcbngjpihcemiaaGe
import Derived.ChangeKeysEq
namespace Go.Proofs.Ytcbngjpihcemiaa
open Go.RowKit

def ckB : CK → Value → Bool
  | .int k, .int l _ => k == l
  | .bool, .bool _ => true
  | .str, .string _ => true
  | _, _ => false
def fitB : List CK → List Value → Bool
  | [], [] => true
  | a :: l, b :: m => ckB a b && fitB l m
  | _, _ => false
def cEq : Value → Value → Bool
  | .int _ a, .int _ b => a == b
  | .bool a, .bool b => a == b
  | .string a, .string b => a.toList == b.toList
  | _, _ => true
def lEq : List Value → List Value → Bool
  | a :: l, b :: m => cEq a b && lEq l m
  | _, _ => true
theorem fit_plain : ∀ {ks : List CK} {l : List Value}, fitB ks l = true → ∀ v ∈ l, plainB v = true
  | [], [], _, v, hv => by cases hv
  | k :: ks, u :: l, h, v, hv => by
    simp only [fitB, Bool.and_eq_true] at h
    rcases List.mem_cons.1 hv with rfl | hv
    · have h1 := h.1
      cases k <;> cases v <;> first | rfl | cases h1
    · exact fit_plain h.2 v hv
  | [], _ :: _, h, _, _ => by cases h
  | _ :: _, [], h, _, _ => by cases h
theorem fit_len : ∀ {ks : List CK} {l : List Value}, fitB ks l = true → l.length = ks.length
  | [], [], _ => rfl
  | k :: ks, u :: l, h => by
    simp only [fitB, Bool.and_eq_true] at h
    simp [fit_len h.2]
  | [], _ :: _, h => by cases h
  | _ :: _, [], h => by cases h
theorem fit_append : ∀ {ks ks2 : List CK} {l : List Value}, fitB (ks ++ ks2) l = true → fitB ks (l.take ks.length) = true ∧ fitB ks2 (l.drop ks.length) = true
  | [], ks2, l, h => by simpa [fitB] using h
  | k :: ks, ks2, u :: l, h => by
    simp only [List.cons_append, fitB, Bool.and_eq_true] at h
    obtain ⟨h1, h2⟩ := fit_append h.2
    exact ⟨by simp [fitB, h.1, h1], by simpa using h2⟩
  | k :: ks, ks2, [], h => by cases h
theorem lEq_append : ∀ {a b c d : List Value}, a.length = b.length → lEq (a ++ c) (b ++ d) = (lEq a b && lEq c d)
  | [], [], c, d, _ => by simp [lEq]
  | x :: a, y :: b, c, d, h => by
    simp only [List.cons_append, lEq]
    rw [lEq_append (by simpa using h), Bool.and_assoc]
  | [], _ :: _, _, _, h => by simp at h
  | _ :: _, [], _, _, h => by simp at h
theorem lEq_split (n : Nat) {l m : List Value} (h : l.length = m.length) : lEq l m = (lEq (l.take n) (m.take n) && lEq (l.drop n) (m.drop n)) := by
  conv => lhs; rw [← List.take_append_drop n l, ← List.take_append_drop n m]
  exact lEq_append (by simp [h])
theorem fit_one {k : CK} {l : List Value} (h : fitB [k] l = true) : ∃ u, l = [u] ∧ ckB k u = true := by
  have h1 := fit_len h
  match l, h1, h with
  | [u], _, h => exact ⟨u, rfl, by simpa [fitB] using h⟩
section
variable {P : Program}
/-- A value of a flat type. -/
def aggP (P : Program) (t : TypeId) : Bool := match P.underlying t with
  | some (.struct _) => true
  | some (.array _ _) => true
  | _ => false
def mkV (b : Bool) (l : List Value) : Value := bif b then .agg l.toArray else l.headD (.bool false)
theorem flatT_pos {n : Nat} {t : TypeId} {ks : List CK} (h : flatT P n t = some ks) : ∃ d, P.underlying t = some d := by
  cases n with
  | zero => cases h
  | succ n =>
    unfold flatT at h
    split at h <;> first | (rename_i hu; exact ⟨_, hu⟩) | cases h
theorem part_flat {t : TypeId} {i : TypeInfo} {n : Nat} {ks : List CK} {xs : Array Value} {off : Nat} (w : World) (hi : P.info? t = some i) (hs : i.size = ks.length) (hf : flatT P n t = some ks) (hl : fitB ks ((xs.toList.drop off).take ks.length) = true) : (part t xs off).run P w = .ok (mkV (aggP P t) ((xs.toList.drop off).take ks.length)) w := by
  obtain ⟨d, hu⟩ := flatT_pos hf
  have hag : (isAgg t).run P w = .ok (aggP P t) w := by
    unfold isAgg aggP
    cases d <;> simp [run_underlying hu, hu]
  have scalar : ∀ k, ks = [k] → aggP P t = false → (part t xs off).run P w = .ok (mkV (aggP P t) ((xs.toList.drop off).take ks.length)) w := fun k hk ha => by
    subst hk
    rw [ha] at hag
    have h1 := fit_len hl
    cases hx : (xs.toList.drop off) with
    | nil => rw [hx] at h1; simp at h1
    | cons v rest =>
      have hg : xs[off]? = some v := by
        have : (xs.toList.drop off)[0]? = some v := by rw [hx]; rfl
        rw [List.getElem?_drop] at this
        simpa using this
      simp [part, hag, hg, ha, mkV]
  have agg : aggP P t = true → (part t xs off).run P w = .ok (mkV (aggP P t) ((xs.toList.drop off).take ks.length)) w := fun ha => by
    rw [ha] at hag
    have : xs.extract off (off + ks.length) = ((xs.toList.drop off).take ks.length).toArray := by
      apply Array.ext'
      rw [Array.toList_extract]
      simp [List.extract]
    simp [part, hag, ha, mkV, run_size hi, hs, this]
  cases n with
  | zero => cases hf
  | succ n =>
    cases d with
    | int k => refine scalar (.int k) ?_ (by simp [aggP, hu]); unfold flatT at hf; rw [hu] at hf; simpa using hf.symm
    | bool => refine scalar .bool ?_ (by simp [aggP, hu]); unfold flatT at hf; rw [hu] at hf; simpa using hf.symm
    | string => refine scalar .str ?_ (by simp [aggP, hu]); unfold flatT at hf; rw [hu] at hf; simpa using hf.symm
    | array n e => exact agg (by simp [aggP, hu])
    | struct fs => exact agg (by simp [aggP, hu])
    | _ => unfold flatT at hf; rw [hu] at hf; cases hf
def EqFlat (P : Program) (D : Nat) (t : TypeId) (ks : List CK) : Prop := ∀ (w : World) (l m : List Value), fitB ks l = true → fitB ks m = true → (Op.equalIn D t (mkV (aggP P t) l) (mkV (aggP P t) m)).run P w = .ok (lEq l m) w
theorem eqFields_flat (D n : Nat) (xs ys : Array Value) (hg : ∀ t ks, flatT P n t = some ks → EqFlat P D t ks) (w : World) : ∀ (fs : List Field) (off : Nat) (ks : List CK), flatF P (flatT P n) fs off = some ks → fitB ks (xs.toList.drop off) = true → fitB ks (ys.toList.drop off) = true → (Op.eqFields D xs ys fs).run P w = .ok (lEq (xs.toList.drop off) (ys.toList.drop off)) w
  | [], off, ks, hf, hx, hy => by
    simp only [flatF, Option.some.injEq] at hf
    subst hf
    have e1 := List.eq_nil_of_length_eq_zero (fit_len hx)
    have e2 := List.eq_nil_of_length_eq_zero (fit_len hy)
    rw [e1, e2]
    simp [Op.eqFields, lEq]
  | f :: fs, off, ks, hf, hx, hy => by
    unfold flatF at hf
    cases hb : (f.offset == off && f.name != "_") with
    | false => rw [hb] at hf; cases hf
    | true =>
      rw [hb] at hf
      simp only [Bool.and_eq_true, beq_iff_eq, bne_iff_ne] at hb
      obtain ⟨ho, hnm⟩ := hb
      simp only [cond_true] at hf
      split at hf
      · rename_i k1 i l h1 h2 h3
        cases hb2 : (i.size == k1.length) with
        | false => rw [hb2] at hf; cases hf
        | true =>
          rw [hb2] at hf
          simp only [beq_iff_eq] at hb2
          simp only [cond_true, Option.some.injEq] at hf
          subst hf
          rw [h2] at h3
          simp only [hb2] at h3
          obtain ⟨hx1, hx2⟩ := fit_append hx
          obtain ⟨hy1, hy2⟩ := fit_append hy
          have ih := eqFields_flat D n xs ys hg w fs _ _ h3 (by rw [← List.drop_drop]; exact hx2) (by rw [← List.drop_drop]; exact hy2)
          have p1 := part_flat w h2 hb2 h1 hx1
          have p2 := part_flat w h2 hb2 h1 hy1
          have p3 := hg _ _ h1 w _ _ hx1 hy1
          rw [lEq_split k1.length (by rw [fit_len hx, fit_len hy]), List.drop_drop, List.drop_drop]
          simp only [Op.eqFields, hnm, ne_eq, not_false_eq_true, if_true, ho, Sem.run_bind, p1, p2, p3, Result.andThen_ok]
          cases lEq ((xs.toList.drop off).take k1.length) ((ys.toList.drop off).take k1.length) with
          | false => simp
          | true => simpa using ih
      · cases hf
theorem eqItems_flat (D n : Nat) {e : TypeId} {ks : List CK} {i : TypeInfo} (xs ys : Array Value) (hi : P.info? e = some i) (hs : i.size = ks.length) (hf : flatT P n e = some ks) (hg : EqFlat P D e ks) (w : World) : ∀ (len j : Nat), fitB (List.replicate len ks).flatten (xs.toList.drop (j * ks.length)) = true → fitB (List.replicate len ks).flatten (ys.toList.drop (j * ks.length)) = true → (Op.eqItems D e ks.length xs ys (List.range' j len)).run P w = .ok (lEq (xs.toList.drop (j * ks.length)) (ys.toList.drop (j * ks.length))) w
  | 0, j, hx, hy => by
    have e1 := List.eq_nil_of_length_eq_zero (fit_len hx)
    have e2 := List.eq_nil_of_length_eq_zero (fit_len hy)
    rw [e1, e2]
    simp [Op.eqItems, lEq]
  | len + 1, j, hx, hy => by
    rw [List.replicate_succ, List.flatten_cons] at hx hy
    have hl : (xs.toList.drop (j * ks.length)).length = (ys.toList.drop (j * ks.length)).length := by rw [fit_len hx, fit_len hy]
    obtain ⟨hx1, hx2⟩ := fit_append hx
    obtain ⟨hy1, hy2⟩ := fit_append hy
    rw [List.drop_drop, ← Nat.succ_mul] at hx2 hy2
    have ih := eqItems_flat D n xs ys hi hs hf hg w len (j + 1) hx2 hy2
    have p1 := part_flat w hi hs hf hx1
    have p2 := part_flat w hi hs hf hy1
    have p3 := hg w _ _ hx1 hy1
    rw [lEq_split ks.length hl, List.drop_drop, List.drop_drop, ← Nat.succ_mul]
    simp only [List.range'_succ, Op.eqItems, Sem.run_bind, p1, p2, p3, Result.andThen_ok]
    cases lEq ((xs.toList.drop (j * ks.length)).take ks.length) ((ys.toList.drop (j * ks.length)).take ks.length) with
    | false => simp
    | true => simpa using ih
theorem eq_flat : ∀ (n d : Nat) (t : TypeId) (ks : List CK), flatT P n t = some ks → EqFlat P (d + n) t ks
  | 0, _, _, _, h => by cases h
  | n + 1, d, t, ks, h => fun w l m hl hm => by
    unfold flatT at h
    split at h
    · rename_i k hu
      injection h with h
      subst h
      obtain ⟨u, rfl, hl2⟩ := fit_one hl
      obtain ⟨v, rfl, hm2⟩ := fit_one hm
      · cases u <;> cases v <;> first | (cases hl2; done) | (cases hm2; done) | skip
        simp only [ckB, beq_iff_eq] at hl2 hm2
        subst hl2 hm2
        simp [mkV, aggP, hu, lEq, cEq, Op.equalIn, run_underlying hu]
    · rename_i hu
      injection h with h
      subst h
      obtain ⟨u, rfl, hl2⟩ := fit_one hl
      obtain ⟨v, rfl, hm2⟩ := fit_one hm
      · cases u <;> cases v <;> first | (cases hl2; done) | (cases hm2; done) | skip
        simp [mkV, aggP, hu, lEq, cEq, Op.equalIn, run_underlying hu]
    · rename_i hu
      injection h with h
      subst h
      obtain ⟨u, rfl, hl2⟩ := fit_one hl
      obtain ⟨v, rfl, hm2⟩ := fit_one hm
      · cases u <;> cases v <;> first | (cases hl2; done) | (cases hm2; done) | skip
        simp [mkV, aggP, hu, lEq, cEq, Op.equalIn, run_underlying hu, beq_toListBytes]
    · rename_i len e hu
      split at h
      · rename_i k1 i h1 h2
        cases hb2 : (i.size == k1.length) with
        | false => rw [hb2] at h; cases h
        | true =>
          rw [hb2] at h
          simp only [beq_iff_eq] at hb2
          simp only [cond_true, Option.some.injEq] at h
          subst h
          have hc : P.cellsOf e = k1.length := by simp [Program.cellsOf, h2, hb2]
          have := eqItems_flat (d + n) n l.toArray m.toArray h2 hb2 h1 (eq_flat n d e k1 h1) w len 0 (by simpa using hl) (by simpa using hm)
          simp only [mkV, aggP, hu, cond_true]
          rw [show d + (n + 1) = (d + n) + 1 from rfl, run_equalIn_array w (d + n) _ _ hu h2, hc, List.range_eq_range']
          simpa using this
      · cases h
    · rename_i fs hu
      cases hb : P.stoodInHeld t with
      | true => rw [hb] at h; cases h
      | false =>
        rw [hb] at h
        simp only [cond_false] at h
        have hfs : P.fieldsOf t = fs := by simp [Program.fieldsOf, hu]
        have := eqFields_flat (d + n) n l.toArray m.toArray (fun t ks hk => eq_flat n d t ks hk) w fs.toList 0 ks h (by simpa using hl) (by simpa using hm)
        simp only [mkV, aggP, hu, cond_true]
        rw [show d + (n + 1) = (d + n) + 1 from rfl, run_equalIn_struct w (d + n) t _ _ (by rw [hfs]; exact hu) hb, hfs]
        simpa using this
    · cases h
end
section
variable {P : Program} {T : Tab} {o : Oper} {env : Env} {H : Hp} {x y : Operand} {t : TypeId} {i : TyI}
theorem agg_eq (hT : T.ok P) (ht : T t = some i) (hk : i.ks.isEmpty = false) {xs ys : Array Value} (hx : fitB i.ks xs.toList = true) (hy : fitB i.ks ys.toList = true) (ha : i.agg = true) (w : World) : (Op.equalIn 10000 t (.agg xs) (.agg ys)).run P w = .ok (lEq xs.toList ys.toList) w ∧ P.eqGuardType P.depth t = false := by
  have h1 := Tab.flat hT ht hk
  unfold flatB at h1
  split at h1
  · rename_i l hl
    simp only [Bool.and_eq_true, Bool.not_eq_true'] at h1
    obtain ⟨h2, h3⟩ := h1
    obtain rfl := cksEq_eq h2
    refine ⟨?_, h3⟩
    have := eq_flat 20 9980 t _ hl w _ _ hx hy
    have hag : aggP P t = true := by
      have h4 := Tab.snd hT ht
      obtain ⟨_, _, _, d, _, _⟩ := i
      unfold aggP
      cases d <;> simp only [TyI.agg] at ha h4 <;> first | (cases ha; done) | (split at h4 <;> first | (rename_i hu _; rw [hu]; done) | (rename_i hu; rw [hu]; done) | (simp_all; done))
    rw [hag] at this
    exact this
  · cases h1
theorem grd_aeql {xs ys : Array Value} {yt : TypeId} (hT : T.ok P) (ho : o.op = .binOp .eql t x y yt) (ht : T t = some i) (hk : i.ks.isEmpty = false) (ha : i.agg = true) (hx : geval env x = some (.agg xs)) (hy : geval env y = some (.agg ys)) (fx : fitB i.ks xs.toList = true) (fy : fitB i.ks ys.toList = true) : GRd P o env H (.bool (lEq xs.toList ys.toList)) [] :=
  .pure fun μ N a he => by
    have h1 := he.eval hx
    have h2 := he.eval hy
    generalize hr : a.eval x = r at h1
    generalize hr2 : a.eval y = r2 at h2
    cases h1 with
    | agg q1 =>
      cases h2 with
      | agg q2 =>
        rename_i xs' ys'
        obtain rfl : xs' = xs := Array.ext' (q1.plain_eq (fit_plain fx))
        obtain rfl : ys' = ys := Array.ext' (q2.plain_eq (fit_plain fy))
        refine ⟨_, .bool _, fun w => ?_⟩
        obtain ⟨e1, e2⟩ := agg_eq hT ht hk fx fy ha w
        simp [execOp, ho, hr, hr2, run_eqGuard_agg w _ t x y _ _ e2, run_eql_struct, e1]
theorem grd_aneq {xs ys : Array Value} {yt : TypeId} (hT : T.ok P) (ho : o.op = .binOp .neq t x y yt) (ht : T t = some i) (hk : i.ks.isEmpty = false) (ha : i.agg = true) (hx : geval env x = some (.agg xs)) (hy : geval env y = some (.agg ys)) (fx : fitB i.ks xs.toList = true) (fy : fitB i.ks ys.toList = true) : GRd P o env H (.bool (!lEq xs.toList ys.toList)) [] :=
  .pure fun μ N a he => by
    have h1 := he.eval hx
    have h2 := he.eval hy
    generalize hr : a.eval x = r at h1
    generalize hr2 : a.eval y = r2 at h2
    cases h1 with
    | agg q1 =>
      cases h2 with
      | agg q2 =>
        rename_i xs' ys'
        obtain rfl : xs' = xs := Array.ext' (q1.plain_eq (fit_plain fx))
        obtain rfl : ys' = ys := Array.ext' (q2.plain_eq (fit_plain fy))
        refine ⟨_, .bool _, fun w => ?_⟩
        obtain ⟨e1, e2⟩ := agg_eq hT ht hk fx fy ha w
        simp [execOp, ho, hr, hr2, run_eqGuard_agg w _ t x y _ _ e2, run_neq_struct, e1]
theorem grd_aeqlK {xs ys : Array Value} {yt : TypeId} {b : Bool} (hT : T.ok P) (ho : o.op = .binOp .eql t x y yt) (ht : T t = some i) (hk : i.ks.isEmpty = false) (ha : i.agg = true) (hx : geval env x = some (.agg xs)) (hy : geval env y = some (.agg ys)) (fx : fitB i.ks xs.toList = true) (fy : fitB i.ks ys.toList = true) (e : lEq xs.toList ys.toList = b) : GRd P o env H (.bool b) [] := by
  subst e
  exact grd_aeql hT ho ht hk ha hx hy fx fy
theorem grd_aneqK {xs ys : Array Value} {yt : TypeId} {b : Bool} (hT : T.ok P) (ho : o.op = .binOp .neq t x y yt) (ht : T t = some i) (hk : i.ks.isEmpty = false) (ha : i.agg = true) (hx : geval env x = some (.agg xs)) (hy : geval env y = some (.agg ys)) (fx : fitB i.ks xs.toList = true) (fy : fitB i.ks ys.toList = true) (e : lEq xs.toList ys.toList = b) : GRd P o env H (.bool (!b)) [] := by
  subst e
  exact grd_aneq hT ho ht hk ha hx hy fx fy
theorem grd_loadNK {j off : Nat} {b : Blk} {cs : List Value} (hT : T.ok P) (ho : o.op = .load t x) (ht : T t = some i) (ha : i.agg = true) (hx : geval env x = some (.pointer (some ⟨j, off, none⟩))) (hb : H.at j = some b) (hn : off + i.size ≤ b.cs.length) (e : (b.cs.drop off).take i.size = cs) : GRd P o env H (.agg cs.toArray) [j] := by
  subst e
  exact grd_loadN hT ho ht ha hx hb hn
end
section
variable {P : Program} {T : Tab} {o : Oper} {env : Env} {H : Hp} {x y : Operand} {t : TypeId} {i : TyI}
/-- No interface, and known. -/
def ifaceD (i : TyI) : Bool := match i.d with
  | .iface => true
  | .other => true
  | _ => false
def izero (i : TyI) : Option Value := match i.zero with
  | a :: b :: l => some (.agg (a :: b :: l).toArray)
  | [a] => bif i.agg then none else some a
  | _ => none
theorem Tab.notIface {t : TypeId} {i : TyI} (hT : T.ok P) (h : T t = some i) (ha : ifaceD i = false) : ∃ d, P.underlying t = some d ∧ (match d with | .interface _ => false | _ => true) = true := by
  have h1 := Tab.snd hT h
  obtain ⟨s, b, z, d⟩ := i
  cases hu : P.underlying t with
  | none =>
    rw [hu] at h1
    exact (Bool.false_ne_true h1).elim
  | some u =>
    refine ⟨u, rfl, ?_⟩
    rw [hu] at h1
    cases u with
    | interface m =>
      exfalso
      cases d with
      | iface => cases ha
      | other => cases ha
      | _ => exact (Bool.false_ne_true h1).elim
    | _ => rfl
theorem two_cells {z : Value} {a b : Value} {l : List Value} (h : z.cells.toList = a :: b :: l) : z = .agg (a :: b :: l).toArray := by
  cases z <;> first | (simp [Value.cells] at h; done) | (simp only [Value.cells] at h; rw [← h])
theorem izero_sound {i : TyI} {z : Value} (hT : T.ok P) (ht : T t = some i) (h : izero i = some z) : VR (fun _ => none) z z ∧ ∀ w : World, (zeroValue t).run P w = .ok z w := by
  unfold izero at h
  split at h
  · rename_i a b l hz
    injection h with h
    subst h
    obtain ⟨ti, q1, q2, q3, q4⟩ := Tab.size hT ht
    obtain ⟨z, q5, q6, q7⟩ := q4 (by rw [hz]; simp)
    rw [hz] at q6 q7
    obtain rfl := two_cells q6
    exact ⟨.agg (.plain q7), fun w => by simp [zeroValue, typeInfo, q1, q5]⟩
  · rename_i a hz
    obtain ⟨h1, h⟩ : i.agg = false ∧ some a = some z := by
      cases hag : i.agg with
      | true => rw [hag] at h; cases h
      | false => rw [hag] at h; exact ⟨rfl, h⟩
    injection h with h
    subst h
    obtain ⟨x, q1, q2, q3⟩ := Tab.one hT ht h1 hz
    exact ⟨.plain q3, fun w => by simp [zeroValue, typeInfo, q1, q2]⟩
  · cases h
theorem Tab.isIface {t : TypeId} {i : TyI} (hT : T.ok P) (h : T t = some i) (hd : i.d = .iface) : ∃ m, P.underlying t = some (.interface m) := by
  have h1 := Tab.snd hT h
  rw [hd] at h1
  cases hu : P.underlying t with
  | none =>
    rw [hu] at h1
    exact (Bool.false_ne_true h1).elim
  | some u =>
    rw [hu] at h1
    cases u with
    | interface m => exact ⟨m, rfl⟩
    | _ => exact (Bool.false_ne_true h1).elim
theorem eqIn_iface (w : World) (d : Nat) {t : TypeId} {m : Array (String × TypeId)} (s : TypeId) (v : Value) (h : P.underlying t = some (.interface m)) : (Op.equalIn (d + 1) t (.iface s v) .nilIface).run P w = .ok false w := by
  unfold Op.equalIn
  simp [run_underlying h]
theorem eqIn_niface (w : World) (d : Nat) {t : TypeId} {m : Array (String × TypeId)} (h : P.underlying t = some (.interface m)) : (Op.equalIn (d + 1) t .nilIface .nilIface).run P w = .ok true w := by
  unfold Op.equalIn
  simp [run_underlying h]
theorem eqGuard_iface (w : World) (d : Nat) {t : TypeId} {m : Array (String × TypeId)} (s : TypeId) (v : Value) (h : P.underlying t = some (.interface m)) : (Op.eqGuardIn (d + 1) t (.iface s v) .nilIface).run P w = .ok false w := by
  unfold Op.eqGuardIn
  simp [run_underlying h]
theorem run_guard_iface (w : World) {t : TypeId} {m : Array (String × TypeId)} (s : TypeId) (v : Value) (h : P.underlying t = some (.interface m)) : (Op.eqGuardIn Op.maxDepth t (.iface s v) .nilIface).run P w = .ok false w := eqGuard_iface w 9999 s v h
theorem run_eq_iface (w : World) {t : TypeId} {m : Array (String × TypeId)} (s : TypeId) (v : Value) (h : P.underlying t = some (.interface m)) : (Op.equal t (.iface s v) .nilIface).run P w = .ok false w := eqIn_iface w 9999 s v h
theorem run_eq_niface (w : World) {t : TypeId} {m : Array (String × TypeId)} (h : P.underlying t = some (.interface m)) : (Op.equal t .nilIface .nilIface).run P w = .ok true w := eqIn_niface w 9999 h
theorem grd_ieq {s : TypeId} {u : Value} {yt : TypeId} (hT : T.ok P) (ho : o.op = .binOp .eql t x (.const .nilIface) yt) (ht : T t = some i) (hd : i.d = .iface) (hx : geval env x = some (.iface s u)) : GRd P o env H (.bool false) [] :=
  .pure fun μ N a he => by
    obtain ⟨m, hm⟩ := Tab.isIface hT ht hd
    have h1 := he.eval hx
    generalize hv : a.eval x = v at h1
    refine ⟨_, .bool _, fun w => ?_⟩
    cases h1
    have hc : a.eval (.const .nilIface) = .nilIface := rfl
    simp [execOp, ho, hv, hc, eqGuard, binOp, run_eq_iface _ _ _ hm]
theorem grd_ineq {s : TypeId} {u : Value} {yt : TypeId} (hT : T.ok P) (ho : o.op = .binOp .neq t x (.const .nilIface) yt) (ht : T t = some i) (hd : i.d = .iface) (hx : geval env x = some (.iface s u)) : GRd P o env H (.bool true) [] :=
  .pure fun μ N a he => by
    obtain ⟨m, hm⟩ := Tab.isIface hT ht hd
    have h1 := he.eval hx
    generalize hv : a.eval x = v at h1
    refine ⟨_, .bool _, fun w => ?_⟩
    cases h1
    have hc : a.eval (.const .nilIface) = .nilIface := rfl
    simp [execOp, ho, hv, hc, eqGuard, binOp, run_eq_iface _ _ _ hm]
theorem grd_ieq0 {yt : TypeId} (hT : T.ok P) (ho : o.op = .binOp .eql t x (.const .nilIface) yt) (ht : T t = some i) (hd : i.d = .iface) (hx : geval env x = some .nilIface) : GRd P o env H (.bool true) [] :=
  .pure fun μ N a he => by
    obtain ⟨m, hm⟩ := Tab.isIface hT ht hd
    have hv := (he.eval hx).plain_eq rfl
    have hc : a.eval (.const .nilIface) = .nilIface := rfl
    exact ⟨_, .bool _, fun w => by simp [execOp, ho, hv, hc, eqGuard, binOp, run_eq_niface _ hm]⟩
theorem grd_ineq0 {yt : TypeId} (hT : T.ok P) (ho : o.op = .binOp .neq t x (.const .nilIface) yt) (ht : T t = some i) (hd : i.d = .iface) (hx : geval env x = some .nilIface) : GRd P o env H (.bool false) [] :=
  .pure fun μ N a he => by
    obtain ⟨m, hm⟩ := Tab.isIface hT ht hd
    have hv := (he.eval hx).plain_eq rfl
    have hc : a.eval (.const .nilIface) = .nilIface := rfl
    exact ⟨_, .bool _, fun w => by simp [execOp, ho, hv, hc, eqGuard, binOp, run_eq_niface _ hm]⟩
theorem grd_mkI {v : Value} (hT : T.ok P) (ho : o.op = .makeInterface t x) (ht : T t = some i) (hi : ifaceD i = false) (hx : geval env x = some v) : GRd P o env H (.iface t v) [] := by
  obtain ⟨d, hd, hd2⟩ := Tab.notIface hT ht hi
  exact grd_iface (fun d' h' => by rw [hd] at h'; injection h' with h'; subst h'; exact hd2) (by rw [hd]; rfl) ho hx
theorem grd_assertY {xt : TypeId} {u : Value} (hT : T.ok P) (ho : o.op = .typeAssert x xt t true) (ht : T t = some i) (hi : ifaceD i = false) (hx : geval env x = some (.iface t u)) : GRd P o env H (.tuple #[u, .bool true]) [] :=
  .pure fun μ N a he => by
    obtain ⟨d, hd, hd2⟩ := Tab.notIface hT ht hi
    have hv := he.eval hx
    generalize hr : a.eval x = rx at hv
    cases hv with
    | iface _ hu =>
      rename_i u'
      exact ⟨.tuple #[u', .bool true], .tuple (.cons hu (.cons (.bool _) .nil)), fun w => by
        simp only [execOp, ho, hr, Instr.typeAssert, Sem.run_bind, run_underlying hd, Result.andThen_ok]
        cases d <;> first | (simp; done) | cases hd2⟩
theorem vr_up {μ : Ren} {u : Value} (h : VR (fun _ => none) u u) : VR μ u u := h.mono fun _ _ e => by cases e
theorem grd_assertN {xt t' : TypeId} {u z : Value} (hT : T.ok P) (ho : o.op = .typeAssert x xt t true) (ht : T t = some i) (hi : ifaceD i = false) (hx : geval env x = some (.iface t' u)) (hz : izero i = some z) (hne : t' ≠ t) : GRd P o env H (.tuple #[z, .bool false]) [] :=
  .pure fun μ N a he => by
    obtain ⟨d, hd, hd2⟩ := Tab.notIface hT ht hi
    obtain ⟨z1, z2⟩ := izero_sound hT ht hz
    have hv := he.eval hx
    generalize hr : a.eval x = rx at hv
    cases hv with
    | iface _ hu =>
      refine ⟨.tuple #[z, .bool false], .tuple (.cons (vr_up z1) (.cons (.bool _) .nil)), fun w => ?_⟩
      simp only [execOp, ho, hr, Instr.typeAssert, Sem.run_bind, run_underlying hd, Result.andThen_ok]
      cases d <;> first | (simp [hne, z2]; done) | cases hd2
theorem grd_assert0 {xt : TypeId} {z : Value} (hT : T.ok P) (ho : o.op = .typeAssert x xt t true) (ht : T t = some i) (hi : ifaceD i = false) (hx : geval env x = some .nilIface) (hz : izero i = some z) : GRd P o env H (.tuple #[z, .bool false]) [] :=
  .pure fun μ N a he => by
    obtain ⟨d, hd, hd2⟩ := Tab.notIface hT ht hi
    obtain ⟨z1, z2⟩ := izero_sound hT ht hz
    have hv := (he.eval hx).plain_eq rfl
    refine ⟨.tuple #[z, .bool false], .tuple (.cons (vr_up z1) (.cons (.bool _) .nil)), fun w => ?_⟩
    simp only [execOp, ho, hv, Instr.typeAssert, Sem.run_bind, run_underlying hd, Result.andThen_ok]
    cases d <;> first | (simp [z2]; done) | cases hd2
end
end Go.Proofs.Ytcbngjpihcemiaa
