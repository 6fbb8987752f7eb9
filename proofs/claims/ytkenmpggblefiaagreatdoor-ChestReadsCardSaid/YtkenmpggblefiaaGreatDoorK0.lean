/- Words for the crypt: bytes as strings, the book's map. -/
import Derived.Test.YtkenmpggblefiaaGreatDoorP2
import Derived.Laws.BytesString
import Derived.Lib.BufferWrite
import Derived.MapKept
namespace Go.Proofs.YtkenmpggblefiaaGreatDoor
open Go.RowKit
open Go.MapKept

/-- bytes as a string -/
def bs (xs : List UInt8) : ByteArray := ⟨xs.toArray⟩
theorem bs_inj {xs ys : List UInt8} (h : bs xs = bs ys) : xs = ys := by
  have := congrArg (fun b : ByteArray => b.data.toList) h
  simpa [bs] using this
theorem bs_size (xs : List UInt8) : (bs xs).size = xs.length := by simp [bs, ByteArray.size]
theorem foldl_push : ∀ (xs : List UInt8) (s : ByteArray), (xs.map fun b => (b.toNat : Int)).foldl (fun r n => r.push (UInt8.ofNat n.toNat)) s = s ++ bs xs
  | [], s => by
    simp only [List.map_nil, List.foldl_nil]
    apply ByteArray.ext
    simp [bs]
  | x :: xs, s => by
    rw [List.map_cons, List.foldl_cons, foldl_push xs]
    apply ByteArray.ext
    simp [bs, ByteArray.push]

theorem loadCells_bytes {P : Program} {w : World} {ok : Nat → Prop} {ad : Addr} {xs : List UInt8} (h : RowV Kn.byte w ok (some ad) xs) : (loadCells ad xs.length).run P w = .ok (bts xs).toArray w := by
  have := run_loadCells_list (P := P) (w := w) ad (bts xs) (row_bytes_cells h ad rfl)
  rwa [bts_length] at this
/-- string(b) -/
theorem run_bytes_string {P : Program} {w : World} {ok : Nat → Prop} {A : Option Addr} {xs : List UInt8} {n c : Nat} {src dst e : TypeId} (h : RowV Kn.byte w ok A xs) (hn : xs.length = n)
    (hs : P.underlying src = some (.slice e)) (he : P.underlying e = some (.int .u8)) (hd : P.underlying dst = some .string) :
    (convert src dst (.slice A n c)).run P w = .ok (.string (bs xs)) w := by
  rw [run_convert_bytes_string w src dst e A n c hs he hd]
  subst hn
  cases A with
  | none =>
    have h0 : xs = [] := by
      rcases Nat.eq_zero_or_pos xs.length with h0 | h0
      · exact List.eq_nil_of_length_eq_zero h0
      · obtain ⟨ad, e, _⟩ := h.2 h0
        cases e
    subst h0
    rfl
  | some ad =>
    rw [run_bytesToString (P := P) w ad xs.length c (xs.map fun b => (b.toNat : Int)) (by rw [loadCells_bytes h]; simp [bts]), foldl_push]
    congr 2

/-! ### the book's map -/
def ents (ts : List (List UInt8)) : List MapEntry := ts.mapIdx fun i t => { key := .string (bs t), val := .int .i64 (i : Int), born := i }
theorem ents_length (ts : List (List UInt8)) : (ents ts).length = ts.length := by simp [ents]
theorem ents_snoc (ts : List (List UInt8)) (x : List UInt8) : ents (ts ++ [x]) = ents ts ++ [{ key := .string (bs x), val := .int .i64 (ts.length : Int), born := ts.length }] := by
  simp [ents]
/-- block b is the map of these texts, numbered -/
def MapIs (w : World) (b : Nat) (ts : List (List UInt8)) : Prop := w.heap[b]? = some (.map (ents ts).toArray ts.length)
theorem findNow_ents (xs : List UInt8) : ∀ (ts : List (List UInt8)) (i : Nat), Instr.findNow .string (.string (bs xs)) (ts.mapIdx fun j t => { key := .string (bs t), val := .int .i64 ((i + j : Nat) : Int), born := i + j : MapEntry }) i
      = some (if xs ∈ ts then some (i + ts.idxOf xs, .int .i64 ((i + ts.idxOf xs : Nat) : Int)) else none)
  | [], i => by simp [Instr.findNow]
  | t :: ts, i => by
    rw [List.mapIdx_cons]
    by_cases h : xs = t
    · subst h
      have hbb : (bs xs == bs xs) = true := by rw [bytes_beq]
      simp [Instr.findNow, Instr.sameNow, hbb]
    · have hne : (bs xs == bs t) = false := by
        rw [Bool.eq_false_iff]
        intro e
        exact h (bs_inj (by simpa [bytes_beq] using e))
      have ih := findNow_ents xs ts (i + 1)
      simp only [Instr.findNow, Instr.sameNow, hne]
      rw [show (ts.mapIdx fun j t => ({ key := .string (bs t), val := .int .i64 ((i + (j + 1) : Nat) : Int), born := i + (j + 1) } : MapEntry)) = ts.mapIdx fun j t => { key := .string (bs t), val := .int .i64 ((i + 1 + j : Nat) : Int), born := i + 1 + j } from by
        congr 1; funext j t; simp only [show i + (j + 1) = i + 1 + j by omega], ih]
      by_cases hm : xs ∈ ts
      · rw [if_pos hm, if_pos (List.mem_cons_of_mem _ hm), show (t :: ts).idxOf xs = ts.idxOf xs + 1 by simp [List.idxOf_cons, show (t == xs) = false by simp [Ne.symm h]]]
        simp only [show i + 1 + ts.idxOf xs = i + (ts.idxOf xs + 1) by omega]
      · rw [if_neg hm, if_neg (by simp [h, hm])]
theorem run_find {P : Program} {w : World} {t : TypeId} (ht : P.underlying t = some .string) (xs : List UInt8) (ts : List (List UInt8)) :
    (Instr.findKey t (.string (bs xs)) (ents ts)).run P w = .ok (if xs ∈ ts then some (ts.idxOf xs, .int .i64 ((ts.idxOf xs : Nat) : Int)) else none) w := by
  have := findNow_ents xs ts 0
  simp only [Nat.zero_add] at this
  exact run_findKey ht this
theorem run_lookup_book {P : Program} {w : World} {b : Nat} {t k e : TypeId} {ts : List (List UInt8)} (h : MapIs w b ts) (ht : P.underlying t = some (.map k e)) (hk : P.underlying k = some .string) (he : P.underlying e = some (.int .i64)) (hz : (zeroValue e).run P w = .ok (.int .i64 0) w) (xs : List UInt8) :
    (Instr.lookup t (.map (some b)) (.string (bs xs)) true).run P w = .ok (.tuple #[.int .i64 (if xs ∈ ts then ((ts.idxOf xs : Nat) : Int) else 0), .bool (decide (xs ∈ ts))]) w := by
  unfold MapIs at h
  have hobj : (getObj b).run P w = .ok (.map (ents ts).toArray ts.length) w := by simp [getObj, Sem.run, h]
  unfold Instr.lookup
  simp only [Sem.run_bind, run_underlying ht, Result.andThen, hobj, Sem.run_pure, run_checkKey hk (show IsKey .string (.string (bs xs)) from trivial), run_find hk]
  by_cases hm : xs ∈ ts
  · simp [hm, Sem.run_pure, Result.andThen]
  · simp [hm, Sem.run_pure, Result.andThen, hz]
theorem run_mapUpdate_book {P : Program} {w : World} {b : Nat} {t k e : TypeId} {ts : List (List UInt8)} (h : MapIs w b ts) (ht : P.underlying t = some (.map k e)) (hk : P.underlying k = some .string) (xs : List UInt8) (hm : xs ∉ ts) :
    (Instr.mapUpdate t (.map (some b)) (.string (bs xs)) (.int .i64 (ts.length : Int))).run P w = .ok () { w with heap := w.heap.setIfInBounds b (.map (ents (ts ++ [xs])).toArray (ts.length + 1)) } := by
  unfold MapIs at h
  have hobj : (getObj b).run P w = .ok (.map (ents ts).toArray ts.length) w := by simp [getObj, Sem.run, h]
  unfold Instr.mapUpdate
  simp only [Sem.run_bind, run_underlying ht, Result.andThen, hobj, Sem.run_pure, run_checkKey hk (show IsKey .string (.string (bs xs)) from trivial), run_find hk, if_neg hm]
  rw [run_setObj_map _ h]
  simp [ents_snoc]

theorem run_len_book {P : Program} {w : World} {b : Nat} {t k e : TypeId} {ts : List (List UInt8)} (h : MapIs w b ts) (ht : P.underlying t = some (.map k e)) (ty : TypeId) :
    (Builtin.len_ #[t] ty #[.map (some b)]).run P w = .ok (.int .i64 (ts.length : Int)) w := by
  unfold MapIs at h
  have hobj : (getObj b).run P w = .ok (.map (ents ts).toArray ts.length) w := by simp [getObj, Sem.run, h]
  simp [Builtin.len_, Builtin.lenOf, run_underlying ht, hobj, ents_length, goInt]
/-- copy, where its run is known -/
theorem wpList_copy_eq {P : Program} (w : World) {ops : Array Oper} {rest : List Oper} {o : Oper} {a : Act} {Q : Exit → Act → World → Prop} (hgd : o.guard = none) (d s : Operand) (t t' : TypeId)
    (ho : o.op = .call { callee := .builtin .copy, args := #[d, s], argTypes := #[t, t'] }) (v u : Value) (hd : a.eval d = v) (hs : a.eval s = u) {v' : Value} {w' : World}
    (hr : (Builtin.copy_ #[t, t'] o.type #[v, u]).run P w = .ok v' w') (h : wpList P ops Q rest (a.put o.dst v') w') : wpList P ops Q (o :: rest) a w :=
  wpList_plain hgd fun _ hK => by
    unfold Oper.wp execOp
    simp only [ho, resolve, invoke, builtin, Sem.run_bind, Sem.run_pure, Result.andThen_ok, List.map_toArray, List.map_cons, List.map_nil, hd, hs, hr]
    exact hK _ _ h
end Go.Proofs.YtkenmpggblefiaaGreatDoor
