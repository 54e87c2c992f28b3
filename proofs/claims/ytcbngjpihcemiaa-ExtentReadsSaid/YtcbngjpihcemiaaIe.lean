/- The quick heap: operations that write, or make. -/
import Derived.Test.YtcbngjpihcemiaaId
namespace Go.Proofs.Ytcbngjpihcemiaa
open Go.RowKit

/-- What stands to be appended. -/
noncomputable def isrc (T : Tab) (H : PH) (xt : TypeId) (z : Nat) (zr : List Value) (v : Value) : Option (Nat × List Value) := match T xt with
  | some i => match i.d with
    | .slice _ _ _ _ => match v with
      | .slice none 0 0 => some (0, [])
      | .slice (some ⟨k, off, none⟩) m _ => match H.at k with
        | some b => bsel (Nat.ble (off + m * z) b.n) (some (m, b.run off (m * z))) none
        | none => none
      | _ => none
    | .str => match v with
      | .string s => bsel (Nat.beq z 1) (some (s.data.toList.length, vb s.data.toList)) none
      | _ => none
    | .int _ => match v with
      | .int _ (.ofNat m) => some (m, gmade zr m)
      | _ => none
    | _ => none
  | none => none
noncomputable def pushV {β : Type} (H : PH) (b : FB) (K : Nat → PH → Option β) : Option β := bsel (Nat.ble H.n 1000000000) (H.pushK b fun H' => K H.n H') none
noncomputable def iapp {β : Type} (T : Tab) (H : PH) (t xt : TypeId) (v w : Value) (K : Value → PH → Option β) : Option β := match T t with
  | some i => match i.d with
    | .slice e z by_ zr => match isrc T H xt z zr w with
      | some (m, news) => fN m fun m => match v with
        | .slice none 0 0 => bsel (Nat.beq m 0) (K (.slice none 0 0) H)
          (bsel (Nat.ble 1 z && Nat.ble (m * by_) 140737488355328 && Nat.ble (m * z) 1000000000 && Nat.ble m 140737488355328)
            (FB.newK e z news fun b => pushV H b fun id H' => K (.slice (some ⟨id, 0, none⟩) m capU) H') none)
        | .slice (some ⟨j, off, none⟩) n c => match H.at j with
          | some b => bsel (Nat.ble 1 z && Nat.ble ((n + m) * by_) 140737488355328 && Nat.ble (n + m) 140737488355328 && Nat.ble ((n + m) * z) 1000000000)
            (bsel (Nat.beq m 0) (K (.slice (some ⟨j, off, none⟩) n c) H) <| bsel (Nat.ble capU c)
              (bsel (b.rw && Nat.beq b.z z && Nat.ble (off + n * z) b.n && Nat.ble 1 n)
                (bsel (Nat.beq off 0)
                  (FB.putsK news (n * z) b.c fun tr => fN (n * z + m * z) fun k => fN (n + m) fun s => H.killK j fun H => pushV H ⟨e, z, k, tr, b.d, true⟩ fun id H' => K (.slice (some ⟨id, 0, none⟩) s capU) H')
                  (FB.newK e z (b.run off (n * z) ++ news) fun b => fN (n + m) fun s => H.killK j fun H => pushV H b fun id H' => K (.slice (some ⟨id, 0, none⟩) s capU) H'))
                none)
              (bsel (Nat.ble (n + m) c)
                (bsel (b.rw && Nat.ble 1 c && Nat.ble (off + c * z) b.n && Nat.ble j 1000000000 && Nat.ble b.n 1000000000)
                  (FB.putsK news (off + n * z) b.c fun tr => fN (n + m) fun s => H.putK j ⟨b.t, b.z, b.n, tr, b.d, b.rw⟩ fun H' => K (.slice (some ⟨j, off, none⟩) s c) H')
                  none)
                (bsel (Nat.ble (off + n * z) b.n)
                  (FB.newK e z (b.run off (n * z) ++ news) fun b => fN (n + m) fun s => pushV H b fun id H' => K (.slice (some ⟨id, 0, none⟩) s capU) H')
                  none)))
            none
          | none => none
        | _ => none
      | none => none
    | _ => none
  | none => none
noncomputable def oneB (v : Value) : Bool := match v with
  | .agg _ => false
  | .tuple _ => false
  | _ => true
noncomputable def allOne : List Value → Bool
  | [] => true
  | v :: l => bsel (oneB v) (allOne l) false
noncomputable def istore {β : Type} (T : Tab) (H : PH) (t : TypeId) (u v : Value) (K : Value → PH → Option β) : Option β := match u with
  | .pointer (some ⟨j, off, none⟩) => match H.at j with
    | some b => match T t with
      | some i => bsel (b.rw && Nat.ble j 1000000000 && Nat.ble b.n 1000000000) (match v with
        | .agg cs => bsel (Nat.beq i.size cs.toList.length && allOne cs.toList && Nat.ble (off + cs.toList.length) b.n)
          (FB.putsK cs.toList off b.c fun tr => H.putK j ⟨b.t, b.z, b.n, tr, b.d, b.rw⟩ fun H' => K undef H') none
        | .tuple _ => none
        | v => bsel (Nat.beq i.size 1 && Nat.ble (Nat.succ off) b.n)
          (fW v fun v => Tr.setK 64 b.c off (some v) fun tr => H.putK j ⟨b.t, b.z, b.n, tr, b.d, b.rw⟩ fun H' => K undef H') none) none
      | none => none
    | none => none
  | _ => none
noncomputable def icopy {β : Type} (T : Tab) (H : PH) (t : TypeId) (v w : Value) (K : Value → PH → Option β) : Option β := match v with
  | .slice (some ⟨j, off, none⟩) n _ => match w with
    | .slice (some ⟨k, off2, none⟩) m _ => match T t with
      | some i => match i.d with
        | .slice _ z _ _ => match H.at j with
          | some b => match H.at k with
            | some b2 => fN (min m n) fun q => bsel (b.rw && Nat.ble (off + n * z) b.n && Nat.ble (off2 + m * z) b2.n && Nat.ble j 1000000000 && Nat.ble b.n 1000000000)
              (FB.putsK (b2.run off2 (q * z)) off b.c fun tr => H.putK j ⟨b.t, b.z, b.n, tr, b.d, b.rw⟩ fun H' => K (.int .i64 (.ofNat q)) H') none
            | none => none
          | none => none
        | _ => none
      | none => none
    | .slice none 0 0 => match T t with
      | some i => match i.d with
        | .slice _ _ _ _ => K (.int .i64 (.ofNat 0)) H
        | _ => none
      | none => none
    | _ => none
  | _ => none
/-- What writes, or makes. -/
noncomputable def iwr {β : Type} (T : Tab) (E : Tr Value) (H : PH) (op : Op) (K : Value → PH → Option β) : Option β := match op with
  | .alloc e => match T e with
    | some i => bsel i.zero.isEmpty none (FB.newK e 1 i.zero fun b => bsel (Nat.ble b.n 1000000000) (pushV H b fun id H' => K (.pointer (some ⟨id, 0, none⟩)) H') none)
    | none => none
  | .box e x => match opd E x with
    | some v => bsel (allOne v.cells.toList) (FB.newK e 1 v.cells.toList fun b => bsel (Nat.ble b.n 1000000000) (pushV H b fun id H' => K (.pointer (some ⟨id, 0, none⟩)) H') none) none
    | none => none
  | .makeSlice t x y => match T t with
    | some i => match i.d with
      | .slice e z by_ zr => match opd E x with
        | some (.int _ (.ofNat l)) => match opd E y with
          | some (.int _ (.ofNat c)) => bsel (Nat.ble l c && Nat.ble (by_ * c) 281474976710656 && Nat.ble c maxLen && Nat.ble (c * z) 1000000000)
            (match zr with
              | [v] => bsel (Nat.beq z 1) (pushV H (FB.zeros e c v) fun id H' => K (.slice (some ⟨id, 0, none⟩) l c) H') none
              | zr => FB.newK e z (gmade zr c) fun b => pushV H b fun id H' => K (.slice (some ⟨id, 0, none⟩) l c) H') none
          | _ => none
        | _ => none
      | _ => none
    | none => none
  | .buildSlice t len ps => match T t with
    | some i => match i.d with
      | .slice e z _ zr => match iparts E ps.toList with
        | some vs => bsel (Nat.ble (len * z) 16777216 && !zr.isEmpty) (match gfill (fun k => some (k * z, z)) (gmade zr len) vs with
          | some cs => bsel (allOne cs) (FB.newK e z cs fun b => bsel (Nat.ble b.n 1000000000) (pushV H b fun id H' => K (.slice (some ⟨id, 0, none⟩) len len) H') none) none
          | none => none) none
        | none => none
      | _ => none
    | none => none
  | .store t x y => match opd E x with
    | some u => match opd E y with
      | some v => istore T H t u v K
      | none => none
    | none => none
  | .convert s d x => match T s with
    | some i => match i.d with
      | .str => match T d with
        | some i2 => match i2.d with
          | .slice e _ _ _ => match T e with
            | some i3 => match i3.d with
              | .int .u8 => match opd E x with
                | some (.string q) => bsel (Nat.ble q.data.toList.length 1000000000) (FB.newK e 1 (vb q.data.toList) fun b => pushV H b fun id H' => K (.slice (some ⟨id, 0, none⟩) q.data.toList.length capU) H') none
                | _ => none
              | _ => none
            | none => none
          | _ => none
        | none => none
      | .slice e _ _ _ => match T e with
        | some i3 => match i3.d with
          | .int .u8 => match opd E x with
            | some (.slice (some ⟨j, off, none⟩) n c) => bsel (Nat.beq s d && Nat.ble 1 n) (match H.at j with
              | some _ => K (.slice (some ⟨j, off, none⟩) n c) H
              | none => none) none
            | _ => none
          | _ => none
        | none => none
      | _ => none
    | none => none
  | .call c => match c.callee with
    | .builtin b => match c.args.toList with
      | [x, y] => match opd E x with
        | some u => match opd E y with
          | some v => match c.argTypes.toList with
            | [t, xt] => match b with
              | .append => iapp T H t xt u v K
              | .copy => icopy T H t u v K
              | _ => none
            | _ => none
          | none => none
        | none => none
      | _ => none
    | _ => none
  | _ => none
end Go.Proofs.Ytcbngjpihcemiaa
