/- The ghost walk: regions that draw their order. Over any program. -/
import Derived.Test.YtcbngjpihcemiaaGl
import Derived.Test.YtcbngjpihcemiaaOs
namespace Go.Proofs.Ytcbngjpihcemiaa
open Go.RowKit

/-- The worlds that are as w is, in the blocks of Prt. -/
def Cl (μ : Ren) (Prt : List Nat) (w : World) : World → Prop := fun x => ∀ i ∈ Prt, ∀ L, μ i = some L → x.heap[L.g]? = w.heap[L.g]?
/-- The class of worlds in which reads must be the same: behind the last that writes, this one alone. -/
def Cw (tl : Bool) (μ : Ren) (Prt : List Nat) (w : World) : World → Prop := cond tl (fun x => x = w) (Cl μ Prt w)
theorem Cw.self (tl : Bool) (μ : Ren) (Prt : List Nat) (w : World) : Cw tl μ Prt w w := by
  cases tl with
  | true => rfl
  | false => exact fun _ _ _ _ => rfl
theorem Cw.at_ {tl : Bool} {μ : Ren} {Prt : List Nat} {w x : World} {i : Nat} {L : Loc} (h : Cw tl μ Prt w x) (hi : tl = true ∨ i ∈ Prt) (hL : μ i = some L) : x.heap[L.g]? = w.heap[L.g]? := by
  cases tl with
  | true =>
    obtain rfl : x = w := h
    rfl
  | false =>
    rcases hi with hi | hi
    · cases hi
    · exact h i hi L hL
/-- The pieces of a region, walked. -/
def GPcs (P : Program) (N : Nat) (C : Ctx) (ops : Array Oper) (Q : Exit → Env → Hp → Prop) (tl : Bool) (Prt : List Nat) (l : List Seg) (env : Env) (H : Hp) : Prop :=
  ∀ w0 Fr μ0 μ a w, Sim C w0 Fr μ0 μ H w → ER μ N env a → (∀ i ∈ Prt, i < H.length) → wpPcs P ops (NoPanic (GPost N C w0 Fr μ0 Q)) l (Cw tl μ Prt w) a w
/-- What only reads, walked. -/
def GQ (P : Program) (N : Nat) (C : Ctx) (ops : Array Oper) (tl : Bool) (Prt : List Nat) (Kg : Env → Prop) (l : List Oper) (env : Env) (H : Hp) : Prop :=
  ∀ w0 Fr μ0 μ a w (Kr : Act → Prop), Sim C w0 Fr μ0 μ H w → ER μ N env a → (∀ env' a', ER μ N env' a' → Kg env' → Kr a') → wpQuiet P ops (Cw tl μ Prt w) Kr l a
section
variable {P : Program} {N : Nat} {C : Ctx} {Q : Exit → Env → Hp → Prop} {env : Env} {H : Hp} {ops : Array Oper} {tl : Bool} {Prt : List Nat} {rest : List Oper} {o : Oper} {Kg : Env → Prop} {segs : List Seg}
theorem GWP.draw {id : Nat} {l : List Oper} (segs : List Seg) (tl : Bool) (Prt : List Nat) (hm : P.follows .mixedOrders = true) (hs : Region.noSelect l.toArray = true) (hlen : segLen segs = l.toArray.size) (hok : okSegs .any l.toArray segs (Array.replicate l.toArray.size false) = true)
    (hp : ∀ i ∈ Prt, i < H.length) (h : GPcs P N C l.toArray Q tl Prt segs env H) : GWP P N C (.region id l.toArray true) Q env H := fun w0 Fr μ0 μ a w hs' he => by
  have hs2 : Sim C w0 Fr μ0 μ H w.drew := ⟨hs'.h.drew, hs'.ext, hs'.frm.drew, hs'.old, hs'.new, hs'.len, hs'.back⟩
  exact wp_region_pcs segs (Cw tl μ Prt w.drew) hm hs hlen hok (Cw.self _ _ _ _) (h w0 Fr μ0 μ a w.drew hs2 he hp)
theorem GPcs.nil (h : Q .normal env H) : GPcs P N C ops Q tl Prt [] env H := fun _ _ _ μ _ _ hs he _ => wpPcs_nil ⟨μ, env, H, hs, he, h⟩
theorem GPcs.reads {l : List Nat} {L : List Oper} (hL : l.filterMap (ops[·]?) = L) (h : GQ P N C ops tl Prt (fun env' => GPcs P N C ops Q tl Prt segs env' H) L env H) : GPcs P N C ops Q tl Prt (.reads l :: segs) env H := fun w0 Fr μ0 μ a w hs he hp =>
  wpPcs_reads hL fun K hK => h w0 Fr μ0 μ a w K hs he fun _ a' he' hk => hK a' (hk w0 Fr μ0 μ a' w hs he' hp)
theorem GQ.nil (h : Kg env) : GQ P N C ops tl Prt Kg [] env H := fun _ _ _ _ a _ _ _ he hk => wpQuiet_nil (hk env a he h)
theorem fm_all {α β : Type} (f : α → Option β) (g : α → β) : ∀ l : List α, (∀ x ∈ l, f x = some (g x)) → l.filterMap f = l.map g
  | [], _ => rfl
  | a :: l, h => by rw [List.filterMap_cons, h a (List.mem_cons_self ..), List.map_cons, fm_all f g l fun x hx => h x (List.mem_cons_of_mem _ hx)]
theorem fm_range (l : List Oper) : (List.range l.length).filterMap (l.toArray[·]?) = l := by
  cases l with
  | nil => rfl
  | cons o l =>
    rw [fm_all _ (fun i => (o :: l).getD i o) _ fun i hi => by
      have hi' := List.mem_range.1 hi
      rw [List.getElem?_toArray, List.getElem?_eq_getElem hi', List.getD_eq_getElem?_getD, List.getElem?_eq_getElem hi']
      rfl]
    apply List.ext_getElem (by simp)
    intro i h1 h2
    rw [List.getElem_map, List.getElem_range, List.getD_eq_getElem?_getD, List.getElem?_eq_getElem h2]
    rfl
/-- A region that draws its order and only reads: in the order of its text. -/
theorem GWP.drawR {id : Nat} {l : List Oper} (hm : P.follows .mixedOrders = true) (hs : Region.noSelect l.toArray = true) (hok : okSegs .any l.toArray [.reads (List.range l.length)] (Array.replicate l.length false) = true)
    (h : GQ P N C l.toArray true [] (fun env' => Q .normal env' H) l env H) : GWP P N C (.region id l.toArray true) Q env H := by
  refine GWP.draw [.reads (List.range l.length)] true [] hm hs (by simp [segLen]) (by simpa using hok) (by intro _ h; cases h) ?_
  refine GPcs.reads (fm_range l) ?_
  intro w0 Fr μ0 μ a w Kr hs2 he hk
  exact h w0 Fr μ0 μ a w Kr hs2 he fun env' a' he' hq => hk env' a' he' (GPcs.nil hq)
theorem GQ.r {b : Bool} {v : Value} {d : Nat} {T : List Nat} (hw : gwant ops env o = some b) (hb : b = true) (hd : o.dst = some d) (hN : Nat.blt d N = true) (h : GRd P o env H v T) (hT : tl = true ∨ ∀ i ∈ T, i ∈ Prt) (k : GQ P N C ops tl Prt Kg rest ((d, v) :: env) H) : GQ P N C ops tl Prt Kg (o :: rest) env H := fun w0 Fr μ0 μ a w Kr hs he hk => by
  obtain ⟨rv, h1, h2⟩ := h μ N a w hs.h he
  refine wpQuiet_step fun K hK => ?_
  rw [gwant_real he hw, if_pos hb]
  refine ⟨rv, fun w' hw' => ?_, hK _ ?_⟩
  · unfold Oper.quietAt
    rw [h2 w' fun i hi L hL => hw'.at_ (hT.imp id fun h => h i hi) hL]
    exact ⟨rfl, rfl⟩
  · rw [hd]
    exact k w0 Fr μ0 μ _ w Kr hs (he.put (by rw [← Nat.blt_eq]; exact hN) h1) hk
theorem GQ.no {b : Bool} {d : Nat} (hw : gwant ops env o = some b) (hb : b = false) (hd : o.dst = some d) (hN : Nat.blt d N = true) (k : GQ P N C ops tl Prt Kg rest ((d, undef) :: env) H) : GQ P N C ops tl Prt Kg (o :: rest) env H := fun w0 Fr μ0 μ a w Kr hs he hk => by
  refine wpQuiet_step fun K hK => ?_
  rw [gwant_real he hw, hb]
  rw [if_neg (by simp)]
  refine hK _ ?_
  rw [hd]
  exact k w0 Fr μ0 μ _ w Kr hs (he.put (by rw [← Nat.blt_eq]; exact hN) (.tuple .nil)) hk
theorem GQ.take {b : Bool} {q : Nat × Bool} (_hg : o.guard = some q) (hw : gwant ops env o = some b) (hb : b = true) (k : GQ P N C ops tl Prt Kg ({ o with guard := none } :: rest) env H) : GQ P N C ops tl Prt Kg (o :: rest) env H := fun w0 Fr μ0 μ a w Kr hs he hk => by
  have h := k w0 Fr μ0 μ a w Kr hs he hk
  have hr := gwant_real he hw
  subst hb
  unfold wpQuiet at h ⊢
  rw [if_pos hr]
  have h2 : Region.wanted { o with guard := none } (yielded ops a.tmps) = true := rfl
  rw [if_pos h2] at h
  exact h
/-- A guard that is not known: both ways. -/
theorem GOps.split {b : Bool} (hw : gwant ops env o = some b) (_hg : o.guard.isSome = true) (h1 : b = true → GOps P N C ops Q (o :: rest) env H) (h2 : b = false → GOps P N C ops Q (o :: rest) env H) : GOps P N C ops Q (o :: rest) env H := by
  have := hw
  cases b with
  | true => exact h1 rfl
  | false => exact h2 rfl
theorem GQ.split {b : Bool} (hw : gwant ops env o = some b) (_hg : o.guard.isSome = true) (h1 : b = true → GQ P N C ops tl Prt Kg (o :: rest) env H) (h2 : b = false → GQ P N C ops tl Prt Kg (o :: rest) env H) : GQ P N C ops tl Prt Kg (o :: rest) env H := by
  have := hw
  cases b with
  | true => exact h1 rfl
  | false => exact h2 rfl
/-- What reads, whatever blocks it reads. -/
theorem GOps.re {b : Bool} {v : Value} {d : Nat} (hw : gwant ops env o = some b) (hb : b = true) (hd : o.dst = some d) (hN : Nat.blt d N = true) (h : ∃ T, GRd P o env H v T) (k : GOps P N C ops Q rest ((d, v) :: env) H) : GOps P N C ops Q (o :: rest) env H := by
  obtain ⟨T, h⟩ := h
  exact GOps.r hw hb hd hN h k
theorem GQ.re {b : Bool} {v : Value} {d : Nat} (hw : gwant ops env o = some b) (hb : b = true) (hd : o.dst = some d) (hN : Nat.blt d N = true) (h : ∃ T, GRd P o env H v T) (hT : tl = true) (k : GQ P N C ops tl Prt Kg rest ((d, v) :: env) H) : GQ P N C ops tl Prt Kg (o :: rest) env H := by
  obtain ⟨T, h⟩ := h
  exact GQ.r hw hb hd hN h (.inl hT) k
theorem GPcs.split {i : Nat} {b : Bool} (ho : ops[i]? = some o) (hw : gwant ops env o = some b) (_hg : o.guard.isSome = true) (h1 : b = true → GPcs P N C ops Q tl Prt (.write i :: segs) env H) (h2 : b = false → GPcs P N C ops Q tl Prt (.write i :: segs) env H) : GPcs P N C ops Q tl Prt (.write i :: segs) env H := by
  have := hw
  have := ho
  cases b with
  | true => exact h1 rfl
  | false => exact h2 rfl
/-- An operation that writes, told with the blocks that it may write. -/
def GOpF (P : Program) (C : Ctx) (o : Oper) (env : Env) (F : List Nat) (H : Hp) (R : Value → Hp → Prop) : Prop :=
  ∀ N w0 Fr μ0 μ a w (K : Act → World → Prop) (Q : Exit → Act → World → Prop), Sim C w0 Fr μ0 μ H w → ER μ N env a →
    (∀ v rv H' w' μ', R v H' → Sim C w0 Fr μ0 μ' H' w' → Ext' μ μ' → VR μ' v rv → Frm w w' (img μ F) → H.length ≤ H'.length → (∀ i L, i < H.length → μ' i = some L → μ i = some L) → K (a.put o.dst rv) w') → o.wp P a w K Q
theorem gopf_call {f : FuncId} {xs : List Operand} {ts : Array TypeId} {vs : List Value} {F : List Nat} {R : Value → Hp → Prop} (ho : o.op = .call { callee := .value (.func f), args := xs.toArray, argTypes := ts }) (hc : ∀ (args : Array Value) (w : World), (callFunc f args).run P w = .ok (.enter f args) w) (hx : gargs env xs = some vs) (hm : ∀ i ∈ F, C.may i) (h : GCalls P f vs F H R) : GOpF P C o env F H R := fun N w0 Fr μ0 μ a w K Q hs he hk => by
  have hr := gargs_real he hx
  have hrun : (execOp a.eval o).run P w = .ok (.enter f (xs.map a.eval).toArray) w := by
    simp [execOp, ho, resolve, Deferred.ofValue, Act.eval, invoke, hc]
  unfold Oper.wp
  rw [hrun]
  show Calls P f _ w _
  refine (h μ w (xs.map a.eval).toArray hs.h (by simpa using hr)).mono ?_
  rintro e w' ⟨v, rv, H', μ', rfl, q2, q3, q4, q5, q6, q7, q8, q9⟩
  exact hk v rv H' w' μ' q2 (hs.called hm q4 q5 q6 q7 q8 q9) q5 q3 q6 q8 q9
/-- What makes a new block. -/
theorem GOpF.new {b : Blk} {v : Value} (h : ∀ μ N a w, SimH μ H w → ER μ N env a → ∃ rs t rv, VRs μ b.cs rs ∧ (execOp a.eval o).run P w = .ok (.value rv) (w.alloc (.cells rs.toArray t)) ∧ VR (μ.upd H.length ⟨w.heap.size, 0, rs.length, b.z⟩) v rv)
    (h1 : ∀ u ∈ b.cs, u.oneCell' = true) : GOpF P C o env [] H (fun u H' => u = v ∧ H' = H.push b) := fun N w0 Fr μ0 μ a w K Q hs he hk => by
  obtain ⟨rs, t, rv, e1, e2, e3⟩ := h μ N a w hs.h he
  unfold Oper.wp
  rw [e2]
  exact hk v rv _ _ _ ⟨rfl, rfl⟩ (hs.push (hs.h.new b rs t e1 h1) (hs.frm.alloc _) (.inr hs.frm.size)) (hs.h.fresh _) e3 ((Frm.refl w _).alloc _) (by simp) (fun i L hi hL => by rw [Ren.upd_ne _ _ (by omega)] at hL; exact hL)
/-- An operation, told with the blocks that it may write. -/
theorem GOpF.of (F : List Nat) {R : Value → Hp → Prop} (hF : ∀ i ∈ F, i < H.length) (hm : ∀ i ∈ F, C.may i) (h : GOp P ⟨F, H.length⟩ o env H R) : GOpF P C o env F H R := fun N w0 Fr μ0 μ a w K Q hs he hk => by
  have hsim : Sim ⟨F, H.length⟩ w (img μ F) μ μ H w := by
    refine ⟨hs.h, Ext'.refl μ, Frm.refl _ _, fun i hi => ⟨hF i hi, fun L hL => mem_img hi hL⟩, fun i L hi hL => ?_, Nat.le_refl _, fun _ _ _ h => h⟩
    have := (hs.h.len i L hL).1
    have hi' : H.length ≤ i := hi
    omega
  refine h N w (img μ F) μ μ a w K Q hsim he fun v rv H' w' μ' hR hs' hx hv => ?_
  exact hk v rv H' w' μ' hR (hs.called hm hs'.h hx hs'.frm hs'.new hs'.len hs'.back) hx hv hs'.frm hs'.len hs'.back
/-- One that writes comes up. The blocks in which reads may float (Prt) are not among those that it writes. -/
theorem GPcs.write {i : Nat} {b : Bool} {d : Nat} {F : List Nat} {R : Value → Hp → Prop} (tl2 : Bool) (Prt2 : List Nat) (ho : ops[i]? = some o) (hw : gwant ops env o = some b) (hb : b = true) (hd : o.dst = some d) (hN : Nat.blt d N = true) (h : GOpF P C o env F H R)
    (htl : tl = false) (hF : ∀ j ∈ F, ∃ c, H.at j = some c ∧ c.rw = true) (hP : ∀ j ∈ Prt, (∃ c, H.at j = some c) ∧ j ∉ F) (hP2 : ∀ j ∈ Prt, j ∈ Prt2)
    (k : ∀ v H', R v H' → (∀ j ∈ Prt2, j < H'.length) ∧ GPcs P N C ops Q tl2 Prt2 segs ((d, v) :: env) H') : GPcs P N C ops Q tl Prt (.write i :: segs) env H := fun w0 Fr μ0 μ a w hs he hp => by
  subst htl
  refine wpPcs_write ho fun K hK => ?_
  rw [gwant_real he hw, if_pos hb]
  refine h N w0 Fr μ0 μ a w K _ hs he fun v rv H' w' μ' hR hs' hx hv hfr hl hbk => ?_
  obtain ⟨k1, k2⟩ := k v H' hR
  have hfar : ∀ j ∈ Prt, ∀ L, μ j = some L → w'.heap[L.g]? = w.heap[L.g]? := fun j hj L hL => by
    obtain ⟨⟨c, hc⟩, hjF⟩ := hP j hj
    refine hfr.block _ (hs.h.len j L hL).2 fun hm => ?_
    obtain ⟨q, M, q1, q2, q3⟩ := img_mem hm
    obtain ⟨c', hc', hrw⟩ := hF q q1
    have := hs.h.inj q j c' c M L hc' hc q2 hL q3 (.inl hrw)
    subst this
    exact hjF q1
  have hsub : ∀ x, Cl μ' Prt2 w' x → Cl μ Prt w x := fun x hx2 j hj L hL => (hx2 j (hP2 j hj) L (hx j L hL)).trans (hfar j hj L hL)
  have hER := (he.mono hx).put (d := d) (by rw [← Nat.blt_eq]; exact hN) hv
  rw [← hd] at hER
  refine hK (Cw tl2 μ' Prt2 w') _ w' (fun x hx2 => ?_) (Cw.self _ _ _ _) (k2 w0 Fr μ0 μ' _ w' hs' (by rw [hd] at hER ⊢; exact hER) k1)
  show Cl μ Prt w x
  cases tl2 with
  | true =>
    obtain rfl : x = w' := hx2
    exact hfar
  | false => exact hsub x hx2
theorem GPcs.write1 {i : Nat} {b : Bool} {d : Nat} {F : List Nat} {v0 : Value} {H0 : Hp} (tl2 : Bool) (Prt2 : List Nat) (ho : ops[i]? = some o) (hw : gwant ops env o = some b) (hb : b = true) (hd : o.dst = some d) (hN : Nat.blt d N = true) (h : GOpF P C o env F H (fun v H' => v = v0 ∧ H' = H0))
    (htl : tl = false) (hF : ∀ j ∈ F, ∃ c, H.at j = some c ∧ c.rw = true) (hP : ∀ j ∈ Prt, (∃ c, H.at j = some c) ∧ j ∉ F) (hP2 : ∀ j ∈ Prt, j ∈ Prt2)
    (hp : ∀ j ∈ Prt2, j < H0.length) (k : GPcs P N C ops Q tl2 Prt2 segs ((d, v0) :: env) H0) : GPcs P N C ops Q tl Prt (.write i :: segs) env H :=
  GPcs.write tl2 Prt2 ho hw hb hd hN h htl hF hP hP2 fun v H' ⟨e1, e2⟩ => by subst e1; subst e2; exact ⟨hp, k⟩
/-- One that would write is passed over. -/
theorem GPcs.no {i : Nat} {b : Bool} {d : Nat} (ho : ops[i]? = some o) (hw : gwant ops env o = some b) (hb : b = false) (hd : o.dst = some d) (hN : Nat.blt d N = true) (k : GPcs P N C ops Q tl Prt segs ((d, undef) :: env) H) : GPcs P N C ops Q tl Prt (.write i :: segs) env H := fun w0 Fr μ0 μ a w hs he hp => by
  refine wpPcs_write ho fun K hK => ?_
  rw [gwant_real he hw, hb, if_neg (by simp)]
  have hER := he.put (d := d) (by rw [← Nat.blt_eq]; exact hN) (.tuple .nil : VR μ undef undef)
  rw [← hd] at hER
  exact hK (Cw tl μ Prt w) _ w (fun x hx => hx) (Cw.self _ _ _ _) (k w0 Fr μ0 μ _ w hs (by rw [hd] at hER ⊢; exact hER) hp)
end
section
variable {P : Program} {T : Tab} {o : Oper} {env : Env} {H : Hp} {x y : Operand} {t : TypeId} {i : TyI}
theorem grd_seql' {a b : List UInt8} {yt : TypeId} (ho : o.op = .binOp .eql t x y yt) (hx : geval env x = some (.string ⟨a.toArray⟩)) (hy : geval env y = some (.string ⟨b.toArray⟩)) : GRd P o env H (.bool (decide (a = b))) [] := by
  have h := grd_seql (P := P) (H := H) ho hx hy
  rw [ByteArray.toList_mk, ByteArray.toList_mk] at h
  have e : (a == b) = decide (a = b) := by
    by_cases e : a = b
    · subst e; simp
    · simp [e]
  rw [e] at h
  exact h
theorem grd_sneq' {a b : List UInt8} {yt : TypeId} (ho : o.op = .binOp .neq t x y yt) (hx : geval env x = some (.string ⟨a.toArray⟩)) (hy : geval env y = some (.string ⟨b.toArray⟩)) : GRd P o env H (.bool (decide (a ≠ b))) [] := by
  have h := grd_sneq (P := P) (H := H) ho hx hy
  rw [ByteArray.toList_mk, ByteArray.toList_mk] at h
  have e : (!(a == b)) = decide (a ≠ b) := by
    by_cases e : a = b
    · subst e; simp
    · simp [e]
  rw [e] at h
  exact h
/-- Bytes as a text, out of a block of bytes. -/
theorem grd_strB {j off n c : Nat} {b : Blk} {L : List UInt8} {src dst e z by_ : Nat} {zr : List Value} {i2 i3 : TyI} (hT : T.ok P) (ho : o.op = .convert src dst x) (ht : T src = some i) (hd : i.d = .slice e z by_ zr) (hte : T e = some i3) (hde : i3.d = .int .u8) (ht2 : T dst = some i2) (hd2 : i2.d = .str)
    (hx : geval env x = some (.slice (some ⟨j, off, none⟩) n c)) (hb : H.at j = some b) (hcs : b.cs = vb L) (hl : off + n ≤ L.length) : GRd P o env H (.string ⟨((L.drop off).take n).toArray⟩) [j] :=
  grd_str hT ho ht hd hte hde ht2 hd2 hx hb (by rw [hcs, vb_take, vb_drop]) (by rw [List.length_take, List.length_drop]; omega)
theorem gbound_int {y : Operand} {d : Nat} {k : IntKind} {m : Int} (h : geval env y = some (.int k m)) (h0 : 0 ≤ m) : gbound env (some y) d m.toNat := ⟨k, by rw [Int.toNat_of_nonneg h0]; exact h⟩
theorem gbound_const {d v : Nat} {k : IntKind} {m : Int} (h : m = (v : Int)) : gbound env (some (.const (.int k m))) d v := ⟨k, by rw [← h]; rfl⟩
theorem gbound_tmp {d v s : Nat} {k : IntKind} {m : Int} (h : env.get s = some (.int k m)) (h2 : m = (v : Int)) : gbound env (some (.tmp s)) d v := ⟨k, by rw [← h2]; exact h⟩
theorem grd_slX {j off n c e z by_ l h m o2 n2 c2 : Nat} {zr : List Value} {lo hi mx : Option Operand} (hT : T.ok P) (ho : o.op = .slice t x lo hi mx) (ht : T t = some i) (hd : i.d = .slice e z by_ zr) (hx : geval env x = some (.slice (some ⟨j, off, none⟩) n c)) (hc : c < capU)
    (hl : gbound env lo 0 l) (hh : gbound env hi n h) (hm : gbound env mx c m) (hmx : mx.isSome = true → hi.isSome = true) (h1 : l ≤ h) (h2 : h ≤ m) (h3 : m ≤ c) (e1 : off + l * z = o2) (e2 : h - l = n2) (e3 : m - l = c2) : GRd P o env H (.slice (some ⟨j, o2, none⟩) n2 c2) [] := by
  subst e1 e2 e3
  exact grd_slice hT ho ht hd hx hl hh hm hmx h1 h2 h3 hc
theorem grd_slU {j off n c e z by_ l h o2 n2 : Nat} {zr : List Value} {lo hi : Option Operand} {b : Blk} (hT : T.ok P) (ho : o.op = .slice t x lo hi none) (ht : T t = some i) (hd : i.d = .slice e z by_ zr) (hx : geval env x = some (.slice (some ⟨j, off, none⟩) n c)) (hc : capU ≤ c)
    (hl : gbound env lo 0 l) (hh : gbound env hi n h) (h1 : l ≤ h) (h2 : h ≤ n) (hb : H.at j = some b) (hz : b.z = z) (e1 : off + l * z = o2) (e2 : h - l = n2) : GRd P o env H (.slice (some ⟨j, o2, none⟩) n2 capU) [] := by
  subst e1 e2
  exact grd_sliceU hT ho ht hd hx hl hh h1 h2 hc hb hz
theorem grd_slM {j off n c e z by_ l h m o2 n2 c2 : Nat} {zr : List Value} {lo hi : Option Operand} {mx : Operand} (hT : T.ok P) (ho : o.op = .slice t x lo hi (some mx)) (ht : T t = some i) (hd : i.d = .slice e z by_ zr) (hx : geval env x = some (.slice (some ⟨j, off, none⟩) n c))
    (hl : gbound env lo 0 l) (hh : gbound env hi n h) (hm : gbound env (some mx) 0 m) (hmx : hi.isSome = true) (h1 : l ≤ h) (h2 : h ≤ m) (h3 : m ≤ n) (e1 : off + l * z = o2) (e2 : h - l = n2) (e3 : m - l = c2) : GRd P o env H (.slice (some ⟨j, o2, none⟩) n2 c2) [] := by
  subst e1 e2 e3
  exact grd_sliceUmax hT ho ht hd hx hl hh hm hmx h1 h2 h3
theorem grd_indexAddrK {j off n c e z by_ k2 : Nat} {zr : List Value} {k : IntKind} {m : Int} (hT : T.ok P) (ho : o.op = .indexAddr t x y) (ht : T t = some i) (hd : i.d = .slice e z by_ zr) (hx : geval env x = some (.slice (some ⟨j, off, none⟩) n c)) (hy : geval env y = some (.int k m)) (h0 : 0 ≤ m) (h1 : m < (n : Int)) (e2 : off + m.toNat * z = k2) :
    GRd P o env H (.pointer (some ⟨j, k2, none⟩)) [] := by
  subst e2
  exact grd_indexAddr hT ho ht hd hx hy h0 h1
theorem grd_indexAddrAK {j off n e z k2 : Nat} {k : IntKind} {m : Int} (hT : T.ok P) (ho : o.op = .indexAddr t x y) (ht : T t = some i) (hd : i.d = .arr n e z) (hx : geval env x = some (.pointer (some ⟨j, off, none⟩))) (hy : geval env y = some (.int k m)) (h0 : 0 ≤ m) (h1 : m < (n : Int)) (e2 : off + m.toNat * z = k2) :
    GRd P o env H (.pointer (some ⟨j, k2, none⟩)) [] := by
  subst e2
  exact grd_indexAddrA hT ho ht hd hx hy h0 h1
theorem wrap_i64_u8 (b : UInt8) : IntKind.i64.wrap (b.toNat : Int) = b.toNat := by
  have := b.toNat_lt
  exact wrap_i64_in ⟨by omega, by omega⟩
theorem grd_slA {j off n e z l h m o2 n2 c2 : Nat} {lo hi mx : Option Operand} (hT : T.ok P) (ho : o.op = .slice t x lo hi mx) (ht : T t = some i) (hd : i.d = .arr n e z) (hx : geval env x = some (.pointer (some ⟨j, off, none⟩)))
    (hl : gbound env lo 0 l) (hh : gbound env hi n h) (hm : gbound env mx n m) (hmx : mx.isSome = true → hi.isSome = true) (h1 : l ≤ h) (h2 : h ≤ m) (h3 : m ≤ n) (hn : n ≤ maxLen) (e1 : off + l * z = o2) (e2 : h - l = n2) (e3 : m - l = c2) : GRd P o env H (.slice (some ⟨j, o2, none⟩) n2 c2) [] := by
  subst e1 e2 e3
  exact grd_sliceA hT ho ht hd hx hl hh hm hmx h1 h2 h3 hn
theorem gop_copyC {C : Ctx} {j off n c m e z by_ k2 off2 c2 : Nat} {xt : TypeId} {b b2 : Blk} {zr : List Value} (cs : List Value) (hT : T.ok P) (ho : o.op = .call { callee := .builtin .copy, args := #[x, y], argTypes := #[t, xt] }) (ht : T t = some i) (hd : i.d = .slice e z by_ zr) (hx : geval env x = some (.slice (some ⟨j, off, none⟩) n c))
    (hb : H.at j = some b) (hrw : b.rw = true) (hm : C.may j) (hol : off + n * z ≤ b.cs.length)
    (hy : geval env y = some (.slice (some ⟨k2, off2, none⟩) m c2)) (hb2 : H.at k2 = some b2) (hl2 : off2 + m * z ≤ b2.cs.length) (hcs : splice b.cs off ((b2.cs.drop off2).take (min m n * z)) = cs) :
    GOp P C o env H (fun u H' => u = .int .i64 ((min m n : Nat) : Int) ∧ H' = H.put j ⟨b.t, b.z, cs, b.rw⟩) := by
  subst hcs
  exact gop_copy hT ho ht hd hx hb hrw hm hol hy hb2 hl2
theorem gop_makeC {C : Ctx} {e z by_ l c id : Nat} {zr : List Value} {kl kc : IntKind} (cs : List Value) (hid : H.length = id) (hT : T.ok P) (ho : o.op = .makeSlice t x y) (ht : T t = some i) (hd : i.d = .slice e z by_ zr) (hx : geval env x = some (.int kl (l : Int))) (hy : geval env y = some (.int kc (c : Int))) (hlc : l ≤ c) (hb : by_ * c ≤ 281474976710656) (h63 : c ≤ maxLen) (hcs : gmade zr c = cs) :
    GOp P C o env H (fun u H' => u = .slice (some ⟨id, 0, none⟩) l c ∧ H' = H.push ⟨e, z, cs, true⟩) := by
  subst hcs
  exact gop_make' hid hT ho ht hd hx hy hlc hb h63
theorem gop_storeC {C : Ctx} {j off : Nat} {b : Blk} {vs : Array Value} (cs : List Value) (hT : T.ok P) (ho : o.op = .store t x y) (ht : T t = some i) (hsz : i.size = vs.size) (hx : geval env x = some (.pointer (some ⟨j, off, none⟩))) (hy : geval env y = some (.agg vs)) (h1 : vs.toList.all (·.oneCell') = true) (hb : H.at j = some b) (hrw : b.rw = true) (hoff : off + vs.size ≤ b.cs.length) (hm : C.may j) (hcs : splice b.cs off vs.toList = cs) :
    GOp P C o env H (fun u H' => u = undef ∧ H' = H.put j ⟨b.t, b.z, cs, b.rw⟩) := by
  subst hcs
  exact gop_storeN hT ho ht hsz hx hy h1 hb hrw hoff hm
theorem all_vb (L : List UInt8) : (vb L).all (·.oneCell') = true := by
  simp [vb, Value.oneCell']
theorem gmade_rep (z : Value) (k : Nat) : ∀ n, gmade (List.replicate k z) n = List.replicate (k * n) z
  | 0 => rfl
  | n + 1 => by
    have e : gmade (List.replicate k z) (n + 1) = List.replicate k z ++ gmade (List.replicate k z) n := by simp [gmade, List.replicate_succ]
    rw [e, gmade_rep z k n, List.replicate_append_replicate]
    congr 1
    rw [Nat.mul_add]
    omega
theorem gmade_vb (k n : Nat) : gmade (List.replicate k (Value.int .u8 0)) n = vb (List.replicate (k * n) 0) := by
  rw [gmade_rep]
  unfold vb
  rw [List.map_replicate]
  rfl
end
section
variable {P : Program} {T : Tab} {C : Ctx} {o : Oper} {env : Env} {H : Hp} {x y : Operand} {t xt : TypeId}
/-- Nothing is appended to nothing. -/
theorem gop_app_00 {e z by_ : Nat} {G : Hp} {zr : List Value} {i : TyI} (hT : T.ok P) (ho : o.op = .call { callee := .builtin .append, args := #[x, y], argTypes := #[t, xt] }) (ht : T t = some i) (hd : i.d = .slice e z by_ zr) (hx : geval env x = some (.slice none 0 0)) {news : List Value}
    (hsrc : GSrc T env G y xt z zr 0 news) : GOp P C o env G (fun u G' => u = .slice none 0 0 ∧ G' = G) := fun N w0 Fr μ0 μ a w K Q hs he hk => by
  have e1 := (he.eval hx).plain_eq rfl
  obtain ⟨q1, ti, q2, q3, q4, q5, zv, q6, q7, q8⟩ := Tab.slice hT ht hd
  obtain ⟨new', g1, g2, g3⟩ := hsrc.real hT hs.h he zv q7 q8
  have hrun : (execOp a.eval o).run P w = .ok (.value (.slice none 0 0)) w := by
    simp only [execOp, ho, resolve, invoke, builtin, Sem.run_bind, Sem.run_pure, Result.andThen_ok, List.map_toArray, List.map_cons, List.map_nil, e1]
    rcases g3 with ⟨hd2 | ⟨e', hd2⟩, hlen, hnew⟩ | ⟨k, kl, hd2, hv, hn⟩
    iterate 2
      · have hn' := hnew w rfl
        subst q3
        simp [Builtin.append_, run_underlying q1, run_underlying hd2, sizeOf, typeInfo, q2, hlen, hn']
    · rw [hv]
      simp [Builtin.append_, run_underlying q1, run_underlying hd2, sizeOf, typeInfo, q2, asInt, asIntOf, IntKind.wrap_i64]
  unfold Oper.wp
  rw [hrun]
  exact hk _ _ _ w μ ⟨rfl, rfl⟩ hs (Ext'.refl μ) .sl0
/-- Nothing is appended. -/
theorem gop_app_zero {G : Hp} {j off n c e z by_ : Nat} {zr news : List Value} {i : TyI} (hT : T.ok P) (ho : o.op = .call { callee := .builtin .append, args := #[x, y], argTypes := #[t, xt] }) (ht : T t = some i) (hd : i.d = .slice e z by_ zr) (hz0 : 0 < z) (hx : geval env x = some (.slice (some ⟨j, off, none⟩) n c))
    (hsrc : GSrc T env G y xt z zr 0 news) (hnl : news.length = 0 * z) (hsz : (n + 0) * by_ ≤ 140737488355328) (hn : n + 0 ≤ 140737488355328) :
    GOp P C o env G (fun u H' => u = .slice (some ⟨j, off, none⟩) n c ∧ H' = G) := fun N w0 Fr μ0 μ a w K Q hs he hk => by
  have hv := he.eval hx
  generalize hr : a.eval x = r at hv
  have hv0 := hv
  cases hv with
  | sl hL hn1 hmm hcc hu ha =>
    rename_i c' a' L2
    obtain ⟨q1, ti, q2, q3, q4, q5, zv, q6, q7, q8⟩ := Tab.slice hT ht hd
    obtain ⟨new', g1, g2, g3⟩ := hsrc.real hT hs.h he zv q7 q8
    subst q3
    subst q4
    have hnil : new' = [] := List.eq_nil_of_length_eq_zero (by rw [← g1.length, hnl]; omega)
    subst hnil
    have hst : (storeCells (a'.add (n * ti.size)) (#[] : Array Value).toList).run P w = .ok () w := by simp [storeCells]
    have hrn := run_app_room (P := P) (ty := o.type) q1 q2 q6 hz0 g3 (n := n) (a := a') (by omega) (by omega) hsz hst
    have hrun : (execOp a.eval o).run P w = .ok (.value (.slice (some a') n c')) w := by
      simp only [execOp, ho, resolve, invoke, builtin, Sem.run_bind, Sem.run_pure, Result.andThen_ok, List.map_toArray, List.map_cons, List.map_nil, hr, hrn, Nat.add_zero]
    unfold Oper.wp
    rw [hrun]
    exact hk _ _ _ w μ ⟨rfl, rfl⟩ hs (Ext'.refl μ) hv0
end
end Go.Proofs.Ytcbngjpihcemiaa
