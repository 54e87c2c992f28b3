/- Words for memory, more: copy into a block known whole. Over any program. -/
import Derived.Test.YteglbehjokldjaaWf
import Derived.Laws.CopyOwn
import Derived.Deep.MidRow
namespace Go.Proofs.Yteglbehjokldjaa
open Go.RowKit

section
variable {P : Program} (w : World)
/-- What a copy leaves. -/
structure CpyB (w w' : World) (g : Nat) (t : TypeId) (cs : List Value) : Prop where
  blk : Bk w' g t cs.toArray
  frm : Frm w w' [g]
  size : w'.heap.size = w.heap.size
theorem wp_copy_blk {o : Oper} {a : Act} {K : Act → World → Prop} {Q : Exit → Act → World → Prop} (d s : Operand) (dT sT : TypeId)
    (ho : o.op = .call { callee := .builtin .copy, args := #[d, s], argTypes := #[dT, sT] }) (elem : TypeId) (hu : P.underlying dT = some (.slice elem)) (hsz : (P.info? elem).map (·.size) = some 1)
    (dp sp : Option Addr) (dLen dCap sLen sCap : Nat) (hd : a.eval d = .slice dp dLen dCap) (hs : a.eval s = .slice sp sLen sCap)
    (g off : Nat) (cur : List Value) (t : TypeId) (hg : Bk w g t cur.toArray) (B : Nat) (cs : List Value) (hn : cs.length = Nat.min sLen dLen)
    (hdp : 0 < cs.length → dp = some ⟨g, off, none⟩) (hr : Rd w B sp cs) (hfit : off + cs.length ≤ cur.length) (h1 : ∀ v ∈ cs, v.oneCell' = true)
    (h : ∀ w', CpyB w w' g t (splice cur off cs) → K (a.put o.dst (goInt cs.length)) w') : o.wp P a w K Q := by
  by_cases h0 : cs.length = 0
  · obtain rfl : cs = [] := List.eq_nil_of_length_eq_zero h0
    have hrun := run_copy_none (P := P) w dT sT o.type elem dp sp dLen dCap sLen sCap hu hsz (by simpa using hn.symm)
    unfold Oper.wp
    simp [execOp, ho, resolve, invoke, builtin, hd, hs, hrun, Result.andThen]
    exact h w ⟨by simpa [splice] using hg, Frm.refl _ _, rfl⟩
  · obtain rfl := hdp (by omega)
    obtain ⟨b, bo, rfl, _, hc⟩ := hr.at_ (by omega)
    have hsrc : ∀ j v, cs[j]? = some v → w.cell? ((⟨b, bo, none⟩ : Addr).add j) = some v := fun j v hv => by
      rw [Addr.add_lit]
      exact hc j v hv
    have hrun := run_copy_row (P := P) w dT sT o.type elem g off dLen dCap _ sLen sCap cur.toArray t cs hu hsz hg hn hsrc (by simpa using hfit) h1
    unfold Oper.wp
    simp [execOp, ho, resolve, invoke, builtin, hd, hs, hrun, Result.andThen]
    exact h _ ⟨by simpa [splice, Bk] using setRow_heap w g _ _ t _ hg, ⟨rfl, rfl, rfl, by simp, fun k _ hk => setRow_other w g k _ (fun e => hk (by simp [e]))⟩, by simp⟩
theorem wpList_copy_blk {ops : Array Oper} {rest : List Oper} {o : Oper} {a : Act} {Q : Exit → Act → World → Prop} (hgd : o.guard = none) (d s : Operand) (dT sT : TypeId)
    (ho : o.op = .call { callee := .builtin .copy, args := #[d, s], argTypes := #[dT, sT] }) (elem : TypeId) (hu : P.underlying dT = some (.slice elem)) (hsz : (P.info? elem).map (·.size) = some 1)
    (dp sp : Option Addr) (dLen dCap sLen sCap : Nat) (hd : a.eval d = .slice dp dLen dCap) (hs : a.eval s = .slice sp sLen sCap)
    (g off : Nat) (cur : List Value) (t : TypeId) (hg : Bk w g t cur.toArray) (B : Nat) (cs : List Value) (hn : cs.length = Nat.min sLen dLen)
    (hdp : 0 < cs.length → dp = some ⟨g, off, none⟩) (hr : Rd w B sp cs) (hfit : off + cs.length ≤ cur.length) (h1 : ∀ v ∈ cs, v.oneCell' = true)
    (h : ∀ w', CpyB w w' g t (splice cur off cs) → wpList P ops Q rest (a.put o.dst (goInt cs.length)) w') : wpList P ops Q (o :: rest) a w :=
  wpList_plain hgd fun _ hK => wp_copy_blk w d s dT sT ho elem hu hsz dp sp dLen dCap sLen sCap hd hs g off cur t hg B cs hn hdp hr hfit h1 fun w' h2 => hK _ _ (h w' h2)
theorem step_copy_blk {ops : Array Oper} {o : Oper} {a : Act} {K : Act → World → Prop} {Q : Exit → Act → World → Prop} {E : Prop} (hgd : o.guard = none) (d s : Operand) (dT sT : TypeId)
    (ho : o.op = .call { callee := .builtin .copy, args := #[d, s], argTypes := #[dT, sT] }) (elem : TypeId) (hu : P.underlying dT = some (.slice elem)) (hsz : (P.info? elem).map (·.size) = some 1)
    (dp sp : Option Addr) (dLen dCap sLen sCap : Nat) (hd : a.eval d = .slice dp dLen dCap) (hs : a.eval s = .slice sp sLen sCap)
    (g off : Nat) (cur : List Value) (t : TypeId) (hg : Bk w g t cur.toArray) (B : Nat) (cs : List Value) (hn : cs.length = Nat.min sLen dLen)
    (hdp : 0 < cs.length → dp = some ⟨g, off, none⟩) (hr : Rd w B sp cs) (hfit : off + cs.length ≤ cur.length) (h1 : ∀ v ∈ cs, v.oneCell' = true)
    (h : ∀ w', CpyB w w' g t (splice cur off cs) → K (a.put o.dst (goInt cs.length)) w') : if Region.wanted o (yielded ops a.tmps) = true then Oper.wp P o a w K Q else E := by
  have hw : Region.wanted o (yielded ops a.tmps) = true := by simp [Region.wanted, hgd]
  rw [if_pos hw]
  exact wp_copy_blk w d s dT sT ho elem hu hsz dp sp dLen dCap sLen sCap hd hs g off cur t hg B cs hn hdp hr hfit h1 h
end
theorem setCells_blk : ∀ (vs : List Value) (o : Nat) (w : World) (g : Nat) (t : TypeId) (cur : Array Value), Bk w g t cur → ∃ cs', Bk (w.setCells g o vs) g t cs' ∧ cs'.size = cur.size
  | [], _, _, _, _, cur, h => ⟨cur, h, rfl⟩
  | v :: vs, o, w, g, t, cur, h => by
    obtain ⟨cs', h1, h2⟩ := setCells_blk vs (o + 1) _ g t _ (h.put o v)
    exact ⟨cs', h1, by rw [h2]; simp⟩
theorem setCells_frm : ∀ (vs : List Value) (o : Nat) (w : World) (g : Nat), Frm w (w.setCells g o vs) [g] ∧ (w.setCells g o vs).heap.size = w.heap.size
  | [], _, w, _ => ⟨Frm.refl w _, rfl⟩
  | v :: vs, o, w, g => by
    obtain ⟨h1, h2⟩ := setCells_frm vs (o + 1) (w.setCell ⟨g, o, none⟩ v) g
    exact ⟨((Frm.refl w [g]).put (.inl (by simp)) v).trans h1, h2.trans (by simp)⟩
/-- A whole block stored. -/
theorem setCells_whole {w : World} {g : Nat} {t : TypeId} {cur : Array Value} (h : Bk w g t cur) (vs : List Value) (hl : vs.length = cur.size) : CpyB w (w.setCells g 0 vs) g t vs := by
  obtain ⟨cs', h1, h2⟩ := setCells_blk vs 0 w g t cur h
  obtain ⟨h3, h4⟩ := setCells_frm vs 0 w g
  refine ⟨?_, h3, h4⟩
  have ht : w.there g 0 vs.length := fun j hj => by
    rw [Nat.zero_add]
    refine ⟨?_, h.free j⟩
    rw [h.cell j, Array.getElem?_eq_getElem (by omega)]
    rfl
  have hr := World.rangeAt_setCells_same w g 0 vs ht
  have e : cs' = vs.toArray := by
    apply Array.ext_getElem?
    intro j
    by_cases hj : j < vs.length
    · have h5 := hr j _ (List.getElem?_eq_getElem hj)
      rw [Nat.zero_add, h1.cell j] at h5
      rw [h5, List.getElem?_toArray, List.getElem?_eq_getElem hj]
    · rw [Array.getElem?_eq_none (by omega), Array.getElem?_eq_none (by simpa using hj)]
  rw [← e]
  exact h1
theorem vb_splice (L : List UInt8) (off : Nat) (cs : List UInt8) : vb (splice L off cs) = splice (vb L) off (vb cs) := by
  simp [splice, vb, List.map_take, List.map_drop]
end Go.Proofs.Yteglbehjokldjaa
