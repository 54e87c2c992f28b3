/- Words for memory, more: 'append(x, make([]T, n)...)', which the translation makes one append of n zeros; elements of one cell. Over any program. -/
import Derived.Test.YteglbehjokldjaaWf
namespace Go.Proofs.Yteglbehjokldjaa
open Go.RowKit

theorem zero_one (z : Value) (n : Nat) : Builtin.zeroCells #[z] n = (List.replicate n z).toArray := by
  apply Array.ext
  · simp [Builtin.zeroCells]
  · intro i h1 h2
    simp [Builtin.zeroCells, Nat.mod_one]

section
variable {P : Program} (w : World)
theorem run_append_zeros (base : Nat) (t it ty e : TypeId) (i : TypeInfo) (z : Value) (k : IntKind) (bytes : Nat) (ht : P.underlying t = some (.slice e)) (hit : P.underlying it = some (.int k)) (hi : P.info? e = some i) (hz : i.zero = some z)
    (hsize : i.size = 1) (hby : i.bytes = bytes) (hzs : z.cells = #[z]) (hz1 : z.oneCell' = true) (kl : IntKind)
    (v : Value) (n : Nat) (xs : List Value) (hown : w.ownsRow base e 1 v n xs) (m : Nat) (hnm : n + m ≤ 9223372036854775807) (hbytes : (n + m) * bytes ≤ 140737488355328) (hbase : base ≤ w.heap.size) :
    ∃ v' w', (Builtin.append_ #[t, it] ty #[v, .int kl (m : Int)]).run P w = .ok v' w' ∧ w'.ownsRow base e 1 v' (n + m) (xs ++ List.replicate m z) ∧ w.grownBy w' v.ownBlock := by
  subst hby
  have hw : IntKind.i64.wrap (m : Int) = (m : Int) := by rw [IntKind.wrap_i64]; omega
  have hm0 : ¬ (m : Int) < 0 := by omega
  have hmb' : m * i.bytes ≤ 281474976710656 := Nat.le_trans (Nat.mul_le_mul_right _ (by omega)) (Nat.le_trans hbytes (by omega))
  have hmb : ¬ (281474976710656 < (m : Int) * (i.bytes : Int)) := by
    have h : ((m * i.bytes : Nat) : Int) ≤ 281474976710656 := by omega
    rw [Int.natCast_mul] at h
    omega
  have hlen : (xs ++ List.replicate m z).length = (n + m) * 1 := by rw [List.length_append, hown.1, List.length_replicate]; omega
  rcases hown.2 with ⟨rfl, rfl⟩ | ⟨g, cap, cur, rfl, hbg, hg, hnc, hcm, hcs, htake⟩
  · obtain rfl : xs = [] := List.eq_nil_of_length_eq_zero (by simpa using hown.1)
    by_cases h0 : m = 0
    · subst h0
      refine ⟨.slice none 0 0, w, ?_, World.ownsRow_nil w base e 1, World.grownBy.refl w _⟩
      simp [Builtin.append_, run_underlying ht, run_underlying hit, sizeOf, typeInfo, hi, asInt, asIntOf, IntKind.wrap_i64]
    · have hmp : ¬ (m ≤ 0) := by omega
      have hn63 : ¬ (9223372036854775807 < (m : Int)) := by omega
      have h48 : ¬ (281474976710656 < Builtin.nextslicecap m 0 * i.bytes) := by rw [nextslicecap_zero (by omega)]; omega
      have hge := grownCap_ge w m 0 e
      have hcm : grownCap w m 0 e ≤ maxLen := grownCap_le_maxLen w m 0 e (by simp only [maxLen]; omega)
      have hr : (Builtin.append_ #[t, it] ty #[.slice none 0 0, .int kl (m : Int)]).run P w = .ok (.slice (some ⟨w.heap.size, 0, none⟩) m (grownCap w m 0 e)) (w.drew.alloc (.cells ((List.replicate m z).toArray ++ Builtin.zeroCells #[z] (grownCap w m 0 e - m)) e)) := by
        simp [Builtin.append_, run_underlying ht, run_underlying hit, sizeOf, typeInfo, zeroValue, hi, hz, hsize, hzs, asInt, asIntOf, hw, hm0, hmb, h0, hn63, h48, Question.forced, Builtin.firstCells, newRow, grownCap, zero_one]
      refine ⟨_, _, hr, ?_, ⟨rfl, rfl, rfl, by simp, fun k hk _ => heap_alloc_old w.drew _ hk⟩⟩
      rw [Nat.zero_add, List.nil_append]
      refine ⟨by simp, .inr ⟨w.heap.size, _, _, rfl, hbase, heap_alloc_new w.drew _, hge, hcm, ?_, ?_⟩⟩
      · simp [zero_one]; omega
      · simp
  · by_cases hroom : n + m ≤ cap
    · have hst := run_storeCells_at P g n e (List.replicate m z) 0 cur w hg (by rw [List.length_replicate, hcs]; omega) (by
        intro u hu
        rw [List.eq_of_mem_replicate hu]
        exact hz1)
      simp only [Nat.add_zero] at hst
      have hr : (Builtin.append_ #[t, it] ty #[.slice (some ⟨g, 0, none⟩) n cap, .int kl (m : Int)]).run P w =
          .ok (.slice (some ⟨g, 0, none⟩) (n + m) cap) (w.setRow g (cur.toList.take n ++ List.replicate m z ++ cur.toList.drop (n + m)).toArray) := by
        by_cases h0 : m = 0
        · subst h0
          simp only [List.replicate_zero, List.append_nil, List.length_nil, Nat.add_zero] at hst ⊢
          simp [Builtin.append_, run_underlying ht, run_underlying hit, sizeOf, typeInfo, zeroValue, hi, hz, hsize, hzs, asInt, asIntOf, IntKind.wrap_i64, hnc, Addr.add_lit, hst]
        · simp [Builtin.append_, run_underlying ht, run_underlying hit, sizeOf, typeInfo, zeroValue, hi, hz, hsize, hzs, asInt, asIntOf, hw, hm0, hmb, h0, hroom, Addr.add_lit, zero_one, hst]
      refine ⟨_, _, hr, ⟨hlen, .inr ⟨g, cap, _, rfl, hbg, setRow_heap w g cur _ e _ hg, hroom, hcm, ?_, ?_⟩⟩, ⟨rfl, rfl, rfl, by simp, fun k _ hk => setRow_other w g k _ (fun e => hk (by simp [Value.ownBlock, e]))⟩⟩
      · simp only [List.size_toArray, List.length_append, List.length_take, List.length_drop, Array.length_toList, List.length_replicate]
        omega
      · rw [Nat.mul_one] at htake
        rw [htake, ← hlen]
        exact List.take_left
    · have hn63 : ¬ (9223372036854775807 < (n : Int) + (m : Int)) := by omega
      have h0 : m ≠ 0 := by omega
      have h48' := growslice_fits (need := n + m) (old := cap) (bytes := i.bytes) (by omega) hbytes
      have h48 : ¬ (281474976710656 < Builtin.nextslicecap (n + m) cap * i.bytes) := by omega
      have hge := grownCap_ge w (n + m) cap e
      have hcm2 : grownCap w (n + m) cap e ≤ maxLen := grownCap_le_maxLen w (n + m) cap e (by simp only [maxLen]; omega)
      have hfo := run_firstCells_some (P := P) w.drew 1 n ⟨g, 0, none⟩ n cap xs hown.1 (hown.cells rfl)
      have hr : (Builtin.append_ #[t, it] ty #[.slice (some ⟨g, 0, none⟩) n cap, .int kl (m : Int)]).run P w =
          .ok (.slice (some ⟨w.heap.size, 0, none⟩) (n + m) (grownCap w (n + m) cap e)) (w.drew.alloc (.cells (xs.toArray ++ (List.replicate m z).toArray ++ Builtin.zeroCells #[z] (grownCap w (n + m) cap e - (n + m))) e)) := by
        simp [Builtin.append_, run_underlying ht, run_underlying hit, sizeOf, typeInfo, zeroValue, hi, hz, hsize, hzs, asInt, asIntOf, hw, hm0, hmb, h0, hroom, hn63, h48, Question.forced, hfo, newRow, grownCap, zero_one]
      refine ⟨_, _, hr, ⟨hlen, .inr ⟨w.heap.size, _, _, rfl, hbase, heap_alloc_new w.drew _, hge, hcm2, ?_, ?_⟩⟩, ⟨rfl, rfl, rfl, by simp, fun k hk _ => heap_alloc_old w.drew _ hk⟩⟩
      · have := hown.1
        simp [zero_one]
        omega
      · simp only [Array.toList_append, List.append_assoc]
        rw [← List.append_assoc, ← hlen]
        exact List.take_left

theorem wpList_append_zeros {ops : Array Oper} {rest : List Oper} {o : Oper} {a : Act} {Q : Exit → Act → World → Prop} (hgd : o.guard = none) (s x : Operand) (t it : TypeId)
    (ho : o.op = .call { callee := .builtin .append, args := #[s, x], argTypes := #[t, it] })
    (base : Nat) (e : TypeId) (z : Value) (bytes : Nat) (he : Elm P t e z 1 bytes) (k : IntKind) (hit : P.underlying it = some (.int k)) (hzs : z.cells = #[z]) (hz1 : z.oneCell' = true)
    (v : Value) (n : Nat) (xs : List Value) (hs : a.eval s = v) (hown : w.ownsRow base e 1 v n xs) (kl : IntKind) (M : Int) (m : Nat) (hx : a.eval x = .int kl M) (hM : M = (m : Int)) (hnm : n + m ≤ 9223372036854775807) (hbytes : (n + m) * bytes ≤ 140737488355328) (hbase : base ≤ w.heap.size)
    (h : ∀ v' w', w'.ownsRow base e 1 v' (n + m) (xs ++ List.replicate m z) → w.grownBy w' v.ownBlock → wpList P ops Q rest (a.put o.dst v') w') : wpList P ops Q (o :: rest) a w := by
  obtain ⟨ht, ⟨i, hi, hz, hsize, hby⟩, _, _⟩ := he
  subst hM
  obtain ⟨v', w', hr, h2, h3⟩ := run_append_zeros (P := P) w base t it o.type e i z k bytes ht hit hi hz hsize hby hzs hz1 kl v n xs hown m hnm hbytes hbase
  refine wpList_plain hgd fun K hK => ?_
  unfold Oper.wp execOp
  simp only [ho, resolve, invoke, builtin, Sem.run_bind, Sem.run_pure, Result.andThen_ok, List.map_toArray, List.map_cons, List.map_nil, hs, hx, hr]
  exact hK _ _ (h v' w' h2 h3)
end
end Go.Proofs.Yteglbehjokldjaa
