/- The ghost walk: append to one's own, copy, bytes of a string, literals. Over any program. -/
import Derived.Test.YtcbngjpihcemiaaGh
namespace Go.Proofs.Ytcbngjpihcemiaa
open Go.RowKit

section
variable {P : Program} {T : Tab} {C : Ctx} {o : Oper} {env : Env} {H : Hp} {x y : Operand} {t xt : TypeId} {i : TyI}
theorem Sim.killed {w0 w : World} {Fr : List Nat} {μ0 μ : Ren} (s : Sim C w0 Fr μ0 μ H w) (j : Nat) : Sim C w0 Fr μ0 μ (H.kill j) w := ⟨s.h.kill j, s.ext, s.frm, s.old, s.new, by rw [Hp.len_kill]; exact s.len, s.back⟩
/-- Append to a slice of one's own, whatever its capacity: the elder slice is gone. -/
theorem gop_app_own {j off n c m e z by_ : Nat} {b : Blk} {zr news : List Value} (hT : T.ok P) (ho : o.op = .call { callee := .builtin .append, args := #[x, y], argTypes := #[t, xt] }) (ht : T t = some i) (hd : i.d = .slice e z by_ zr) (hz0 : 0 < z) (hx : geval env x = some (.slice (some ⟨j, off, none⟩) n c)) (hc : capU ≤ c)
    (hb : H.at j = some b) (hrw : b.rw = true) (hbz : b.z = z) (hm : C.may j) (hol : off + n * z ≤ b.cs.length) (hn0 : 0 < n)
    (hsrc : GSrc T env H y xt z zr m news) (hnl : news.length = m * z) (hsz : (n + m) * by_ ≤ 140737488355328) (hn : n + m ≤ 140737488355328) :
    GOp P C o env H (fun u H' => u = .slice (some ⟨H.length, 0, none⟩) (n + m) capU ∧ H' = (H.kill j).push ⟨e, z, (b.cs.drop off).take (n * z) ++ news, true⟩) := fun N w0 Fr μ0 μ a w K Q hs he hk => by
  have hv := he.eval hx
  obtain ⟨a', c', l', e1, e2, e3⟩ := real_first (P := P) hs.h hv hb hol
  obtain ⟨L, rs, t', fz, d1, d2, d3, d4, d5, d6, d7⟩ := hs.h.dom j b hb
  rw [e1] at hv
  cases hv with
  | sl hL hn1 hmm hcc hu ha =>
    rename_i L2
    rw [d1] at hL
    injection hL with hL
    subst hL
    have hu := hu hc
    have hS := d5 hrw
    have hoL : ((b.cs.drop off).take (n * z)).length = n * z := by rw [List.length_take, List.length_drop]; omega
    have hl' : l'.length = n * z := by rw [← e2.length]; exact hoL
    have ho1 : ∀ u ∈ (b.cs.drop off).take (n * z), u.oneCell' = true := fun u hu => d7 u (List.mem_of_mem_drop (List.mem_of_mem_take hu))
    rcases Nat.lt_or_ge c' (n + m) with hroom | hroom
    · -- no room
      obtain ⟨rv, w', L', f1, f2, f3, f4, f5⟩ := GOp.grown hT ho ht hd hz0 rfl hsrc hoL hnl ho1 hsz hn hroom hs.h he e1 e2 e3
      unfold Oper.wp
      rw [f1]
      have hk2 := f2.kill j
      have hcomm : (H.push ⟨e, z, (b.cs.drop off).take (n * z) ++ news, true⟩).kill j = (H.kill j).push ⟨e, z, (b.cs.drop off).take (n * z) ++ news, true⟩ := by
        have := Hp.at_lt hb
        simp [Hp.push, Hp.kill, this]
      rw [hcomm] at hk2
      have hs2 := (hs.push f2 (hs.frm.tr (Frm.of_below f5 []) (by simp)) (.inr (by rw [f4]; exact hs.frm.size))).killed j
      rw [hcomm] at hs2
      exact hk _ rv _ w' _ ⟨rfl, rfl⟩ hs2 (hs.h.fresh _) f3
    · -- room
      have ha' := ha (by omega)
      subst ha'
      obtain ⟨q1, ti, q2, q3, q4, q5, zv, q6, q7, q8⟩ := Tab.slice hT ht hd
      obtain ⟨new', g1, g2, g3⟩ := hsrc.real hT hs.h he zv q7 q8
      subst q3
      subst q4
      have hnl' : new'.length = m * ti.size := by rw [← g1.length]; exact hnl
      rw [d2, hbz] at hu
      have hmulc : (n + m) * ti.size ≤ c' * ti.size := Nat.mul_le_mul_right _ hroom
      have hmul2 : (n + m) * ti.size = n * ti.size + m * ti.size := Nat.add_mul _ _ _
      obtain ⟨w', rs', s1, s2, s3, s4, s5, s6, s7⟩ := run_storeRow (P := P) new' L.g (L.d + off + n * ti.size) rs w d3 (d4 hrw) (by omega) (g1.one g2)
      have s1 := s1 0 (Nat.zero_le _)
      rw [Nat.sub_zero] at s1
      have hst : (storeCells ((⟨L.g, L.d + off, none⟩ : Addr).add (n * ti.size)) new'.toArray.toList).run P w = .ok () w' := by rw [addr_add]; exact s1
      have hr := run_app_room (P := P) (ty := o.type) q1 q2 q6 hz0 g3 hroom (by omega) hsz hst
      have hrun : (execOp a.eval o).run P w = .ok (.value (.slice (some ⟨L.g, L.d + off, none⟩) (n + m) c')) w' := by
        simp only [execOp, ho, resolve, invoke, builtin, Sem.run_bind, Sem.run_pure, Result.andThen_ok, List.map_toArray, List.map_cons, List.map_nil, e1, hr]
      have hlen : (H.kill j).length = H.length := Hp.len_kill
      have hadd := (hs.h.kill j).add (w' := w') (by omega) ⟨e, ti.size, (b.cs.drop off).take (n * ti.size) ++ news, true⟩ ⟨L.g, L.d + off, L.S, ti.size⟩ rs' t' fz rfl s2 (by rw [s3]; exact d4 hrw) (by rw [s3]; exact hS) (fun q v hq => ?_) (fun u hu => ?_) (fun i c M hi hM => ?_)
      · rw [hlen] at hadd
        unfold Oper.wp
        rw [hrun]
        have hsim : Sim C w0 Fr μ0 (μ.upd H.length ⟨L.g, L.d + off, L.S, ti.size⟩) ((H.kill j).push ⟨e, ti.size, (b.cs.drop off).take (n * ti.size) ++ news, true⟩) w' := by
          have := (hs.killed j).push (L := ⟨L.g, L.d + off, L.S, ti.size⟩) (by rw [hlen]; exact hadd) (hs.frm.tr s6 (fun g hg => by
            rw [List.mem_singleton] at hg
            subst hg
            exact hs.may hm d1)) (show L.g ∈ Fr ∨ w0.heap.size ≤ L.g from hs.may hm d1)
          rw [hlen] at this
          exact this
        exact hk _ _ _ w' _ ⟨rfl, rfl⟩ hsim (hs.h.fresh _) (.sl (Ren.upd_eq _ _ _) hroom hmm (fun h => by omega) (fun _ => by simp only; omega) (fun _ => rfl))
      · -- the cells
        rw [hlen]
        rcases Nat.lt_or_ge q (n * ti.size) with hq1 | hq1
        · rw [List.getElem?_append_left (by omega)] at hq
          rw [List.getElem?_take, if_pos hq1, List.getElem?_drop] at hq
          obtain ⟨v', h5, h6⟩ := d6 (off + q) v hq
          exact ⟨v', by simp only; rw [s4 _ (by omega)]; rw [Nat.add_assoc]; exact h5, h6.mono (hs.h.fresh _)⟩
        · rw [List.getElem?_append_right (by omega), hoL] at hq
          obtain ⟨v', h5, h6⟩ := g1.get _ v hq
          refine ⟨v', ?_, h6.mono (hs.h.fresh _)⟩
          have := s5 _ v' h5
          simp only
          rw [show L.d + off + q = L.d + off + n * ti.size + (q - n * ti.size) by omega]
          exact this
      · rcases List.mem_append.1 hu with hu | hu
        · exact ho1 u hu
        · exact g2 u hu
      · have hne : j ≠ i := by
          rintro rfl
          rw [Hp.at_kill_eq] at hi
          cases hi
        rw [Hp.at_kill_ne hne] at hi
        have hg : M.g ≠ L.g := fun hgg => hne (hs.h.inj j i b c L M hb hi d1 hM hgg.symm (.inl hrw))
        exact ⟨hg, s6.block M.g (hs.h.len i M hM).2 (by simpa using hg)⟩
/-- Append where there is room, as is known: the slice goes on in its block. -/
theorem gop_app_room {j off n c m e z by_ : Nat} {b : Blk} {zr news : List Value} (hT : T.ok P) (ho : o.op = .call { callee := .builtin .append, args := #[x, y], argTypes := #[t, xt] }) (ht : T t = some i) (hd : i.d = .slice e z by_ zr) (hz0 : 0 < z) (hx : geval env x = some (.slice (some ⟨j, off, none⟩) n c)) (hc : c < capU) (hcm : n + m ≤ c) (hc0 : 0 < c)
    (hb : H.at j = some b) (hrw : b.rw = true) (hm : C.may j) (hol : off + c * z ≤ b.cs.length)
    (hsrc : GSrc T env H y xt z zr m news) (hnl : news.length = m * z) (hsz : (n + m) * by_ ≤ 140737488355328) (hn : n + m ≤ 140737488355328) :
    GOp P C o env H (fun u H' => u = .slice (some ⟨j, off, none⟩) (n + m) c ∧ H' = H.put j { b with cs := splice b.cs (off + n * z) news }) := fun N w0 Fr μ0 μ a w K Q hs he hk => by
  have hv := he.eval hx
  obtain ⟨L, rs, t', fz, d1, d2, d3, d4, d5, d6, d7⟩ := hs.h.dom j b hb
  generalize hr : a.eval x = r at hv
  cases hv with
  | sl hL hn1 hmm hcc hu ha =>
    rename_i c' a' L2
    rw [d1] at hL
    injection hL with hL
    subst hL
    obtain rfl := hcc hc
    obtain rfl := ha hc0
    obtain ⟨q1, ti, q2, q3, q4, q5, zv, q6, q7, q8⟩ := Tab.slice hT ht hd
    obtain ⟨new', g1, g2, g3⟩ := hsrc.real hT hs.h he zv q7 q8
    subst q3
    subst q4
    have hmulc : (n + m) * ti.size ≤ c' * ti.size := Nat.mul_le_mul_right _ hcm
    have hmul2 : (n + m) * ti.size = n * ti.size + m * ti.size := Nat.add_mul _ _ _
    obtain ⟨w', e1, e2, e3, e4⟩ := hs.h.store (P := P) hb hrw (off := off + n * ti.size) (by omega) g1 g2 d1
    have hst : (storeCells ((⟨L.g, L.d + off, none⟩ : Addr).add (n * ti.size)) new'.toArray.toList).run P w = .ok () w' := by rw [addr_add, Nat.add_assoc]; exact e1
    have hrn := run_app_room (P := P) (ty := o.type) q1 q2 q6 hz0 g3 hcm (by omega) hsz hst
    have hrun : (execOp a.eval o).run P w = .ok (.value (.slice (some ⟨L.g, L.d + off, none⟩) (n + m) c')) w' := by
      simp only [execOp, ho, resolve, invoke, builtin, Sem.run_bind, Sem.run_pure, Result.andThen_ok, List.map_toArray, List.map_cons, List.map_nil, hr, hrn]
    unfold Oper.wp
    rw [hrun]
    exact hk _ _ _ w' μ ⟨rfl, rfl⟩ (hs.put d1 hm e2 e3 Hp.len_put) (Ext'.refl μ) (.sl d1 hcm hmm (fun _ => rfl) (fun h => by omega) (fun _ => rfl))
/-- The first k elements of a slice. -/
theorem real_firstk {μ : Ren} {w : World} {k off n c z q : Nat} {b : Blk} {v' : Value} (hs : SimH μ H w) (hv : VR μ (.slice (some ⟨k, off, none⟩) n c) v') (hb : H.at k = some b) (hq : q ≤ n) (hn : off + q * z ≤ b.cs.length) :
    ∃ (a : Addr) (c' : Nat) (l' : List Value), v' = .slice (some a) n c' ∧ VRs μ ((b.cs.drop off).take (q * z)) l' ∧ (Builtin.firstCells z q (.slice (some a) n c')).run P w = .ok l'.toArray w := by
  cases hv with
  | sl hL hn1 hm hc hu ha =>
    rename_i c' a' L
    obtain ⟨M, l', q1, q2, q3, q4⟩ := hs.run hb off (q * z) hn
    rw [hL] at q1
    injection q1 with q1
    subst q1
    refine ⟨a', c', l', rfl, q2, ?_⟩
    rcases Nat.eq_zero_or_pos q with h0 | h0
    · subst h0
      have : l' = [] := List.eq_nil_of_length_eq_zero (by omega)
      subst this
      simp [Builtin.firstCells, loadCells, loadCellsFrom]
    · obtain rfl := ha (by omega)
      refine run_firstCells_some (P := P) w z q ⟨L.g, L.d + off, none⟩ n c' l' q3 fun j v hj => ?_
      rw [addr_add]
      exact q4 j v hj
/-- A copy out of a slice, into one. -/
theorem gop_copy {j off n c m e z by_ k2 off2 c2 : Nat} {b b2 : Blk} {zr : List Value} (hT : T.ok P) (ho : o.op = .call { callee := .builtin .copy, args := #[x, y], argTypes := #[t, xt] }) (ht : T t = some i) (hd : i.d = .slice e z by_ zr) (hx : geval env x = some (.slice (some ⟨j, off, none⟩) n c))
    (hb : H.at j = some b) (hrw : b.rw = true) (hm : C.may j) (hol : off + n * z ≤ b.cs.length)
    (hy : geval env y = some (.slice (some ⟨k2, off2, none⟩) m c2)) (hb2 : H.at k2 = some b2) (hl2 : off2 + m * z ≤ b2.cs.length) :
    GOp P C o env H (fun u H' => u = .int .i64 ((min m n : Nat) : Int) ∧ H' = H.put j { b with cs := splice b.cs off ((b2.cs.drop off2).take (min m n * z)) }) := fun N w0 Fr μ0 μ a w K Q hs he hk => by
  have hv := he.eval hx
  have hmin : min m n * z ≤ m * z := Nat.mul_le_mul_right _ (Nat.min_le_left _ _)
  have hmin2 : min m n * z ≤ n * z := Nat.mul_le_mul_right _ (Nat.min_le_right _ _)
  obtain ⟨a2, c2', l', f1, f2, f3⟩ := real_firstk (P := P) (z := z) (q := min m n) hs.h (he.eval hy) hb2 (Nat.min_le_left _ _) (by omega)
  obtain ⟨L, rs, t', fz, d1, d2, d3, d4, d5, d6, d7⟩ := hs.h.dom j b hb
  obtain ⟨q1, ti, q2, q3, q4, q5, zv, q6, q7, q8⟩ := Tab.slice hT ht hd
  subst q3
  generalize hr : a.eval x = r at hv
  cases hv with
  | sl hL hn1 hmm hcc hu ha =>
    rename_i c' a' L2
    rw [d1] at hL
    injection hL with hL
    subst hL
    have hfl : ((b2.cs.drop off2).take (min m n * ti.size)).length = min m n * ti.size := by rw [List.length_take, List.length_drop]; omega
    have hone : ∀ u ∈ (b2.cs.drop off2).take (min m n * ti.size), u.oneCell' = true := fun u hu => hs.h.one hb2 u (List.mem_of_mem_drop (List.mem_of_mem_take hu))
    have key : ∃ w', (storeCells a' l').run P w = .ok () w' ∧ SimH μ (H.put j { b with cs := splice b.cs off ((b2.cs.drop off2).take (min m n * ti.size)) }) w' ∧ Frm w w' [L.g] := by
      rcases Nat.eq_zero_or_pos n with h0 | h0
      · subst h0
        rw [Nat.min_zero, Nat.zero_mul, List.take_zero] at f2 ⊢
        cases f2
        refine ⟨w, rfl, ?_, Frm.refl _ _⟩
        have e : splice b.cs off ([] : List Value) = b.cs := by simp [splice]
        rw [e]
        show SimH μ (H.put j b) w
        rw [Hp.put_self hb]
        exact hs.h
      · obtain rfl := ha (by omega)
        obtain ⟨w', e1, e2, e3, e4⟩ := hs.h.store (P := P) hb hrw (off := off) (by omega) f2 hone d1
        exact ⟨w', e1, e2, e3⟩
    obtain ⟨w', e1, e2, e3⟩ := key
    have hrun : (execOp a.eval o).run P w = .ok (.value (.int .i64 ((min m n : Nat) : Int))) w' := by
      have hmn : m.min n = min m n := rfl
      simp only [execOp, ho, resolve, invoke, builtin, Sem.run_bind, Sem.run_pure, Result.andThen_ok, List.map_toArray, List.map_cons, List.map_nil, hr, f1]
      simp [Builtin.copy_, run_underlying q1, Builtin.lenOf, run_size q2, hmn, f3, e1, goInt]
    unfold Oper.wp
    rw [hrun]
    exact hk _ _ _ w' μ ⟨rfl, rfl⟩ (hs.put d1 hm e2 e3 Hp.len_put) (Ext'.refl μ) (.int _ _)
/-- A copy of nothing. -/
theorem gop_copy0 {j off n c e z by_ : Nat} {zr : List Value} (hT : T.ok P) (ho : o.op = .call { callee := .builtin .copy, args := #[x, y], argTypes := #[t, xt] }) (ht : T t = some i) (hd : i.d = .slice e z by_ zr) (hx : geval env x = some (.slice (some ⟨j, off, none⟩) n c))
    (hy : geval env y = some (.slice none 0 0)) : GOp P C o env H (fun u H' => u = .int .i64 0 ∧ H' = H) := fun N w0 Fr μ0 μ a w K Q hs he hk => by
  have hv := he.eval hx
  have h2 := (he.eval hy).plain_eq rfl
  obtain ⟨q1, ti, q2, q3, q4, q5, zv, q6, q7, q8⟩ := Tab.slice hT ht hd
  generalize hr : a.eval x = r at hv
  cases hv with
  | sl hL hn1 hmm hcc hu ha =>
    have hrun : (execOp a.eval o).run P w = .ok (.value (.int .i64 0)) w := by
      simp only [execOp, ho, resolve, invoke, builtin, Sem.run_bind, Sem.run_pure, Result.andThen_ok, List.map_toArray, List.map_cons, List.map_nil, hr, h2]
      simp [Builtin.copy_, run_underlying q1, Builtin.lenOf, run_size q2, Builtin.firstCells, storeCells, goInt]
    unfold Oper.wp
    rw [hrun]
    exact hk _ _ _ w μ ⟨rfl, rfl⟩ hs (Ext'.refl μ) (.int _ _)
theorem heap_freeze {w : World} {g n : Nat} {C : Array Value} {e : TypeId} (h : w.heap[g]? = some (.cells C e (0, 0))) : (w.freeze ⟨g, n, none⟩ 1).heap[g]? = some (.cells C e (n, n + 1)) := by
  simp [World.freeze, Array.getElem?_modify, h]
theorem heap_freeze_ne {w : World} {g n k : Nat} (h : k ≠ g) : (w.freeze ⟨g, n, none⟩ 1).heap[k]? = w.heap[k]? := by
  simp [World.freeze, Array.getElem?_modify, Ne.symm h]
/-- The bytes of a text. -/
theorem gop_bytes {e z by_ src dst : Nat} {zr : List Value} {s : ByteArray} {i2 i3 : TyI} (hT : T.ok P) (ho : o.op = .convert src dst x) (ht : T src = some i) (hd : i.d = .str) (ht2 : T dst = some i2) (hd2 : i2.d = .slice e z by_ zr) (hte : T e = some i3) (hde : i3.d = .int .u8) (hx : geval env x = some (.string s)) (hsz : s.size ≤ maxLen) :
    GOp P C o env H (fun u H' => u = .slice (some ⟨H.length, 0, none⟩) s.size capU ∧ H' = H.push ⟨e, 1, vb s.data.toList, true⟩) := fun N w0 Fr μ0 μ a w K Q hs he hk => by
  have h1 := (he.eval hx).plain_eq rfl
  have q1 := Tab.str hT ht hd
  have q2 := (Tab.slice hT ht2 hd2).1
  have q3 := Tab.int hT hte hde
  have hge := grownCap_ge w s.size 0 e
  have hle := grownCap_le_maxLen w s.size 0 e hsz
  obtain ⟨D, hD⟩ : ∃ D, D = (s.data.map fun b => Value.int .u8 (b.toNat : Int)) ++ Array.replicate (grownCap w s.size 0 e - s.size) (.int .u8 0) := ⟨_, rfl⟩
  have hss : s.data.size = s.size := rfl
  have hDs : D.size = grownCap w s.size 0 e := by
    rw [hD]
    simp
    omega
  have hrun : (execOp a.eval o).run P w = .ok (.value (.slice (some ⟨w.heap.size, 0, none⟩) s.size (grownCap w s.size 0 e))) ((w.drew.alloc (.cells D e)).freeze ⟨w.heap.size, D.size, none⟩ 1) := by
    have hsh : (w.drew.alloc (.cells D e)).shape? w.heap.size = some (e, D.size) := by
      have : (w.drew.alloc (.cells D e)).heap[w.heap.size]? = some (.cells D e) := heap_alloc_new w.drew _
      unfold World.shape?
      rw [this]
    rw [hD] at hsh ⊢
    simp [execOp, ho, h1, convert, run_underlying q1, run_underlying q2, run_underlying q3, Conv.stringToBytes, newRow, markStringish, grownCap, Question.forced] at hsh ⊢
    simp [Sem.run, hsh, freeze]
  unfold Oper.wp
  rw [hrun]
  have hnew : ((w.drew.alloc (.cells D e)).freeze ⟨w.heap.size, D.size, none⟩ 1).heap[w.heap.size]? = some (.cells D e (D.size, D.size + 1)) := heap_freeze (heap_alloc_new w.drew _)
  have hold : ∀ k, k < w.heap.size → ((w.drew.alloc (.cells D e)).freeze ⟨w.heap.size, D.size, none⟩ 1).heap[k]? = w.heap[k]? := fun k hk => (heap_freeze_ne (by omega)).trans (heap_alloc_old w.drew _ hk)
  have hsize : w.heap.size ≤ ((w.drew.alloc (.cells D e)).freeze ⟨w.heap.size, D.size, none⟩ 1).heap.size := by simp [World.freeze]
  have hbel : Below w.heap.size w ((w.drew.alloc (.cells D e)).freeze ⟨w.heap.size, D.size, none⟩ 1) := ⟨rfl, rfl, rfl, hsize, hold⟩
  have hadd := hs.h.add (w' := (w.drew.alloc (.cells D e)).freeze ⟨w.heap.size, D.size, none⟩ 1) hsize ⟨e, 1, vb s.data.toList, true⟩ ⟨w.heap.size, 0, D.size, 1⟩ D e (D.size, D.size + 1) rfl hnew (.inr (Nat.le_refl _)) rfl (fun j v hj => ?_) (fun u hu => vb_one _ u hu) (fun i c M _ hM => ?_)
  · exact hk _ _ _ _ _ ⟨rfl, rfl⟩ (hs.push hadd (hs.frm.tr (Frm.of_below hbel []) (by simp)) (.inr hs.frm.size)) (hs.h.fresh _) (.sl (L := ⟨w.heap.size, 0, D.size, 1⟩) (Ren.upd_eq _ _ _) hge hle (fun h => by omega) (fun _ => by simp only; omega) (fun _ => rfl))
  · refine ⟨v, ?_, .plain (vb_plain _ v (List.mem_of_getElem? hj))⟩
    have hj2 : j < s.data.size := by
      have := (List.getElem?_eq_some_iff.1 hj).1
      simpa [vb] using this
    rw [hD, Nat.zero_add, Array.getElem?_append_left (by simpa using hj2)]
    rw [← hj]
    simp [vb]
  · have := (hs.h.len i M hM).2
    exact ⟨by simp only; omega, hold _ this⟩
end
end Go.Proofs.Ytcbngjpihcemiaa
