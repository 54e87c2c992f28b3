/- Runs, and walks that end in one. -/
import Derived.Test.YtcbngjpihcemiaaIft
namespace Go.Proofs.Ytcbngjpihcemiaa
open Go.RowKit

theorem gop_call0 {P : Program} {C : Ctx} {o : Oper} {env : Env} {H : Hp} {f : FuncId} {ts : Array TypeId} {F : List Nat} {R : Value → Hp → Prop} (ho : o.op = .call { callee := .value (.func f), args := #[], argTypes := ts }) (hc : ∀ (args : Array Value) (w : World), (callFunc f args).run P w = .ok (.enter f args) w) (hm : ∀ i ∈ F, C.may i) (h : GCalls P f [] F H R) : GOp P C o env H R := gop_call (xs := []) ho hc rfl hm h
theorem one_sees {s0 : Nat} {v0 : Value} (h0 : s0 < trMax) {env : Env} (he : env.get s0 = some v0) : ∀ s v, (ofL [(s0, v0)] .e).get s = some v → env.get s = some v := fun s v h => by
  rcases ofL_get (fun p hp => by rw [List.mem_singleton] at hp; subst hp; exact h0) h with h1 | h1
  · rw [List.mem_singleton] at h1
    injection h1 with h1 h2
    subst h1 h2
    exact he
  · cases h1
theorem may0 (F : List Nat) {H : PH} : CL ⟨F, ([] : Hp).length⟩ H := ⟨Nat.zero_le _, fun i _ _ => .inr (Nat.zero_le i)⟩
/-- What a run left. -/
noncomputable def rX (x : Option (Exit × Tr Value × PH)) : Exit := match x with
  | some (e, _, _) => e
  | none => .normal
noncomputable def rE (x : Option (Exit × Tr Value × PH)) : Tr Value := match x with
  | some (_, E, _) => E
  | none => .e
noncomputable def rH (x : Option (Exit × Tr Value × PH)) : PH := match x with
  | some (_, _, H) => H
  | none => PH0
theorem some_r {x : Option (Exit × Tr Value × PH)} (h : x.isSome = true) : x = some (rX x, rE x, rH x) := by
  cases x with
  | none => cases h
  | some q => rfl
theorem run_mono_r {P : Program} {T : Tab} {FT : Tr FE} {S : CallF} (hT : T.ok P) (hm : P.follows .mixedOrders = true) (hF : FTOk P FT) (hS : CallOk P S) {n N : Nat} {dr : Tr (List PSeg)} {c : Code} {E : Tr Value} {H : PH} (h : (Go.Proofs.Ytcbngjpihcemiaa.run FT S T n N dr c E H).isSome = true) (hok : codeOk N dr c = true) (hN : Nat.ble N trMax = true) : Mono H (rH (Go.Proofs.Ytcbngjpihcemiaa.run FT S T n N dr c E H)) := (run_sound hT hm hF hS n N dr c E H _ _ _ (some_r h) hok (ble_le hN)).1
theorem GCalls.kill {P : Program} {f : FuncId} {args : List Value} {F : List Nat} {H : Hp} {R : Value → Hp → Prop} (i : Nat) (h : GCalls P f args F (H.kill i) R) : GCalls P f args F H R := fun μ w rargs hs hv => by
  have := h μ w rargs (hs.kill i) hv
  rw [Hp.len_kill] at this
  exact this
theorem GWP.heap {P : Program} {N : Nat} {C : Ctx} {c : Code} {Q : Exit → Env → Hp → Prop} {env : Env} {H : Hp} (G : Hp) (e : H = G) (h : GWP P N C c Q env G) : GWP P N C c Q env H := by
  rw [e]
  exact h
theorem GWP.runR {P : Program} {T : Tab} {FT : Tr FE} {S : CallF} (hT : T.ok P) (hm : P.follows .mixedOrders = true) (hF : FTOk P FT) (hS : CallOk P S) {n N : Nat} {dr : Tr (List PSeg)} {c : Code} {E : Tr Value} {H : PH} (e : Exit) {C : Ctx} {env : Env} {Q : Exit → Env → Hp → Prop} (hC : CL C H)
    (h : (Go.Proofs.Ytcbngjpihcemiaa.run FT S T n N dr c E H).isSome = true) (hX : rX (Go.Proofs.Ytcbngjpihcemiaa.run FT S T n N dr c E H) = e) (hok : codeOk N dr c = true) (hN : Nat.ble N trMax = true)
    (hs : ∀ s v, E.get s = some v → env.get s = some v) (k : ∀ env', (∀ s v, (rE (Go.Proofs.Ytcbngjpihcemiaa.run FT S T n N dr c E H)).get s = some v → env'.get s = some v) → Q e env' (rH (Go.Proofs.Ytcbngjpihcemiaa.run FT S T n N dr c E H)).abs) : GWP P N C c Q env H.abs := by
  subst hX
  exact GWP.run hT hm hF hS (some_r h) hok (ble_le hN) hC hs k
theorem list3 {α : Type} {l : List α} (h : l.length = 3) : ∃ a b c, l = [a, b, c] := by
  match l, h with
  | [a, b, c], _ => exact ⟨a, b, c, rfl⟩
theorem list2 {α : Type} {l : List α} (h : l.length = 2) : ∃ a b, l = [a, b] := by
  match l, h with
  | [a, b], _ => exact ⟨a, b, rfl⟩
theorem mix : Try.prog.follows .mixedOrders = true := by kernel_rfl
end Go.Proofs.Ytcbngjpihcemiaa
