/- What single operations of the model do, as far as the evaluator uses them. -/
import Derived.Test.YtehcfmohjcjmpaaSxGam
import Derived.Laws.StructEq
import Derived.Laws.CopyRow
import Derived.Laws.Tables
import Derived.Laws.OwnMore
namespace Go.Proofs.Ytehcfmohjcjmpaa.Sx
open Go Go.RowKit

section
variable {P : Program} (w : World)

theorem addr_add (b o n : Nat) : (⟨b, o, none⟩ : Addr).add n = ⟨b, o + n, none⟩ := by unfold Addr.add; split <;> simp_all

theorem run_sizeOf {t : TypeId} {n : Nat} (h : size? P t = some n) : (sizeOf t).run P w = .ok n w := by
  unfold size? at h
  cases hi : P.info? t with
  | none => simp [hi] at h
  | some i => simp [hi] at h; simp [sizeOf, typeInfo, hi, h]

theorem run_isAgg {t : TypeId} {d : TypeDesc} (h : P.underlying t = some d) : (isAgg t).run P w = .ok (isAggB P t) w := by
  simp only [isAgg, Sem.run_bind, run_underlying h, Result.andThen_ok, isAggB, h]
  cases d <;> rfl

theorem underlying_of_agg {t : TypeId} (ha : isAggB P t = true) : ∃ d, P.underlying t = some d := by
  unfold isAggB at ha
  split at ha
  · exact ⟨_, by assumption⟩
  · exact ⟨_, by assumption⟩
  · cases ha

theorem run_zeroValue {t : TypeId} {z : Value} (h : (P.info? t).bind (·.zero) = some z) : (zeroValue t).run P w = .ok z w := by
  cases hi : P.info? t with
  | none => simp [hi] at h
  | some i => simp [hi] at h; simp [zeroValue, typeInfo, hi, h]

/-! ### to load, to store -/
/-- known cells, as an operation of a type takes them -/
def packV (ag : Bool) (vs : List Value) : Value := if ag then .agg vs.toArray else vs.headD undef

theorem run_loadVar {t : TypeId} {d : TypeDesc} {n : Nat} (hd : P.underlying t = some d) (hs : size? P t = some n) (b o : Nat) (vs : List Value) (hl : vs.length = n) (hag : isAggB P t = false → n = 1)
    (hc : ∀ j v, vs[j]? = some v → w.cell? ⟨b, o + j, none⟩ = some v) : (loadVar t ⟨b, o, none⟩).run P w = .ok (packV (isAggB P t) vs) w := by
  have hcells : ∀ j v, vs[j]? = some v → w.cell? ((⟨b, o, none⟩ : Addr).add j) = some v := fun j v h => by rw [addr_add]; exact hc j v h
  simp only [loadVar, Sem.run_bind, run_isAgg w hd, Result.andThen_ok]
  cases ha : isAggB P t with
  | true =>
    have hr := run_loadCells_list (P := P) w ⟨b, o, none⟩ vs hcells
    rw [hl] at hr
    simp [run_sizeOf w hs, hr, packV]
  | false =>
    have h1 := hag ha
    subst h1
    obtain ⟨v, rfl⟩ : ∃ v, vs = [v] := by
      match vs, hl with
      | [v], _ => exact ⟨v, rfl⟩
    have := hc 0 v (by simp)
    simp only [Nat.add_zero] at this
    simp [packV, run_load, this]

theorem run_storeVar {t : TypeId} {n : Nat} (hs : size? P t = some n) (b o : Nat) (ty : TypeId) (cur : Array Value) (v : Value) (hg : w.heap[b]? = some (.cells cur ty (0, 0)))
    (hl : v.cells.size = n) (hfit : o + n ≤ cur.size) (h1 : ∀ u ∈ v.cells.toList, u.oneCell' = true) :
    (storeVar t ⟨b, o, none⟩ v).run P w = .ok () (w.setRow b (cur.toList.take o ++ v.cells.toList ++ cur.toList.drop (o + n)).toArray) := by
  have hst := run_storeCells_at P b o ty v.cells.toList 0 cur w hg (by simpa [hl] using hfit) h1
  simp only [Nat.add_zero, Array.length_toList, hl] at hst
  simp [storeVar, run_sizeOf w hs, hl, hst]

theorem run_newVar (t : TypeId) (v : Value) : (newVar t v).run P w = .ok ⟨w.heap.size, 0, none⟩ (w.alloc (.cells v.cells t)) := by
  simp [newVar, newRow]

theorem run_alloc {t : TypeId} {z : Value} (h : (P.info? t).bind (·.zero) = some z) :
    (Instr.alloc t true (.tuple #[])).run P w = .ok (.pointer (some ⟨w.heap.size, 0, none⟩)) (w.alloc (.cells z.cells t)) := by
  simp [Instr.alloc, run_zeroValue w h, run_newVar]

theorem run_box (t : TypeId) (v : Value) : (Instr.box t v).run P w = .ok (.pointer (some ⟨w.heap.size, 0, none⟩)) (w.alloc (.cells v.cells t)) := by
  simp [Instr.box, run_newVar]

theorem run_part {t : TypeId} {d : TypeDesc} {n : Nat} (hd : P.underlying t = some d) (hs : size? P t = some n) (cs : Array Value) (off : Nat) (hfit : off + n ≤ cs.size) (hag : isAggB P t = false → n = 1) :
    (part t cs off).run P w = .ok (packV (isAggB P t) ((cs.toList.drop off).take n)) w := by
  simp only [part, Sem.run_bind, run_isAgg w hd, Result.andThen_ok]
  cases ha : isAggB P t with
  | true =>
    simp only [if_true, Sem.run_bind, run_sizeOf w hs, Result.andThen_ok, packV]
    have e : cs.extract off (off + n) = ((cs.toList.drop off).take n).toArray := by
      apply Array.ext'
      simp [Array.toList_extract, List.extract_eq_take_drop]
    rw [e]
    rfl
  | false =>
    have h1 := hag ha
    subst h1
    have hlt : off < cs.size := by omega
    have e : (cs.toList.drop off).take 1 = [cs[off]] := by
      rw [List.drop_eq_getElem_cons (by simpa using hlt)]
      simp
    simp [packV, e, hlt]

/-! ### a field's address, an element's -/
theorem run_fieldAt {t : TypeId} {fs : Array Field} (hu : P.underlying t = some (.struct fs)) {i : Nat} {f : Field} (hf : fs[i]? = some f) {n : Nat} (hs : size? P f.type = some (n + 1)) (b o : Nat) :
    (Instr.fieldAt t (.pointer (some ⟨b, o, none⟩)) i).run P w = .ok (.pointer (some ⟨b, o + f.offset, none⟩)) w := by
  simp [Instr.fieldAt, run_underlying hu, hf, Instr.sureAddr, fieldPlace, run_sizeOf w hs, addr_add]

theorem run_indexAt {t e : TypeId} (hu : P.underlying t = some (.slice e)) {n : Nat} (hs : size? P e = some n) (b o len cap : Nat) (k : IntKind) (i : Int) (h0 : 0 ≤ i) (h1 : i < len) :
    (Instr.indexAt t (.slice (some ⟨b, o, none⟩) len cap) (.int k i)).run P w = .ok (.pointer (some ⟨b, o + i.toNat * n, none⟩)) w := by
  simp [Instr.indexAt, asIntOf, run_underlying hu, h0, h1, run_sizeOf w hs, addr_add]

/-! ### to build -/
theorem foldl_set (off : Nat) : ∀ (vs : List Value) (k : Nat) (cs : Array Value), off + k + vs.length ≤ cs.size →
    ((vs.zipIdx k).foldl (fun (cs : Array Value) (x : Value × Nat) => cs.setIfInBounds (off + x.2) x.1) cs).toList = cs.toList.take (off + k) ++ vs ++ cs.toList.drop (off + k + vs.length)
  | [], k, cs, _ => by simp
  | v :: vs, k, cs, h => by
    simp only [List.length_cons] at h
    rw [List.zipIdx_cons, List.foldl_cons, foldl_set off vs (k + 1) (cs.setIfInBounds (off + k) v) (by simp; omega)]
    have hk : off + k < cs.toList.length := by simp; omega
    simp only [Array.toList_setIfInBounds, List.length_cons]
    have e1 : (cs.toList.set (off + k) v).take (off + (k + 1)) = cs.toList.take (off + k) ++ [v] := by
      rw [show off + (k + 1) = off + k + 1 by omega, List.take_succ_eq_append_getElem (by simpa using hk), List.take_set_of_le (Nat.le_refl _)]
      simp
    have e2 : (cs.toList.set (off + k) v).drop (off + (k + 1) + vs.length) = cs.toList.drop (off + k + (vs.length + 1)) := by
      rw [List.drop_set_of_lt (by omega), show off + (k + 1) + vs.length = off + k + (vs.length + 1) by omega]
    rw [e1, e2]
    simp

theorem fill_cons (place : Nat → Option (Nat × Nat)) (cells : Array Value) (i : Nat) (v : Value) (rest : List (Nat × Value)) (off n : Nat) (hp : place i = some (off, n)) (hl : v.cells.size = n) (hfit : off + n ≤ cells.size) :
    Instr.fill place cells ((i, v) :: rest) = Instr.fill place (cells.toList.take off ++ v.cells.toList ++ cells.toList.drop (off + n)).toArray rest := by
  have hf := foldl_set off v.cells.toList 0 cells (by simpa [hl] using hfit)
  simp only [Nat.add_zero, Array.length_toList, hl] at hf
  simp only [Instr.fill, hp, hl]
  rw [if_neg (by simp; omega)]
  congr 1
  apply Array.ext'
  rw [← hf, ← Array.foldl_toList, Array.toList_zipIdx]

/-- rows that are laid one behind the other -/
theorem fill_rows (n : Nat) : ∀ (vs : List Value) (k : Nat) (cells : Array Value), (∀ v ∈ vs, v.cells.size = n) → (k + vs.length) * n ≤ cells.size →
    Instr.fill (fun i => some (i * n, n)) cells ((vs.zipIdx k).map fun x => (x.2, x.1)) = some (cells.toList.take (k * n) ++ vs.flatMap (·.cells.toList) ++ cells.toList.drop ((k + vs.length) * n)).toArray
  | [], k, cells, _, _ => by simp [Instr.fill]
  | v :: vs, k, cells, hv, hfit => by
    have hn := hv v (by simp)
    simp only [List.length_cons] at hfit
    have hfit' : k * n + n ≤ cells.size := by
      have : (k + 1) * n ≤ (k + (vs.length + 1)) * n := Nat.mul_le_mul_right _ (by omega)
      rw [Nat.add_mul, Nat.one_mul] at this
      omega
    rw [List.zipIdx_cons, List.map_cons, fill_cons _ cells k v _ (k * n) n rfl hn hfit',
      fill_rows n vs (k + 1) _ (fun u hu => hv u (by simp [hu])) (by
        simp only [List.size_toArray, List.length_append, List.length_take, List.length_drop, Array.length_toList, hn]
        have : (k + 1 + vs.length) * n = (k + (vs.length + 1)) * n := by congr 1; omega
        rw [this]
        omega)]
    have hl : (cells.toList.take (k * n) ++ v.cells.toList).length = (k + 1) * n := by
      simp only [List.length_append, List.length_take, Array.length_toList, hn, Nat.add_mul, Nat.one_mul]
      omega
    have e1 : (cells.toList.take (k * n) ++ v.cells.toList ++ cells.toList.drop (k * n + n)).take ((k + 1) * n) = cells.toList.take (k * n) ++ v.cells.toList := by
      rw [List.take_append_of_le_length (by omega), List.take_of_length_le (by omega)]
    have e2 : (cells.toList.take (k * n) ++ v.cells.toList ++ cells.toList.drop (k * n + n)).drop ((k + 1 + vs.length) * n) = cells.toList.drop ((k + (vs.length + 1)) * n) := by
      have x1 : (k + 1 + vs.length) * n = (k + 1) * n + vs.length * n := Nat.add_mul _ _ _
      have x2 : (k + (vs.length + 1)) * n = (k * n + n) + vs.length * n := by rw [show k + (vs.length + 1) = k + 1 + vs.length by omega, x1, Nat.add_mul k 1, Nat.one_mul]
      rw [x1, ← hl, List.drop_length_add_append, List.drop_drop, x2]
    congr 1
    simp only [List.flatMap_cons, List.length_cons]
    apply Array.ext'
    show List.take ((k + 1) * n) (cells.toList.take (k * n) ++ v.cells.toList ++ cells.toList.drop (k * n + n)) ++ vs.flatMap (fun x => x.cells.toList) ++ List.drop ((k + 1 + vs.length) * n) (cells.toList.take (k * n) ++ v.cells.toList ++ cells.toList.drop (k * n + n)) = _
    rw [e1, e2]
    simp [List.append_assoc]

/-! ### append -/
theorem run_lenOf_slice (a : Option Addr) (n c : Nat) : (Builtin.lenOf (.slice a n c)).run P w = .ok n w := rfl
theorem run_lenOf_string (s : ByteArray) : (Builtin.lenOf (.string s)).run P w = .ok s.size w := rfl

/-- there is no room: a new block -/
theorem run_append_far (t u ty e : TypeId) (i : TypeInfo) (z : Value) (ht : P.underlying t = some (.slice e)) (hu : (∃ e', P.underlying u = some (.slice e')) ∨ P.underlying u = some .string) (hi : P.info? e = some i) (hz : i.zero = some z)
    (b : Option Addr) (sLen sCap : Nat) (olds : List Value) (hold : (Builtin.firstCells i.size sLen (.slice b sLen sCap)).run P w.drew = .ok olds.toArray w.drew)
    (x : Value) (n : Nat) (news : List Value) (hn : (Builtin.lenOf x).run P w = .ok n w) (hnew : (Builtin.firstCells i.size n x).run P w.drew = .ok news.toArray w.drew)
    (hg : sCap < sLen + n) (h63 : sLen + n ≤ maxLen) (hby : (sLen + n) * i.bytes ≤ 140737488355328) :
    (Builtin.append_ #[t, u] ty #[.slice b sLen sCap, x]).run P w =
      .ok (.slice (some ⟨w.heap.size, 0, none⟩) (sLen + n) (grownCap w (sLen + n) sCap e))
        (w.drew.alloc (.cells (olds ++ news ++ (Builtin.zeroCells z.cells (grownCap w (sLen + n) sCap e - (sLen + n))).toList).toArray e)) := by
  have h63' : ¬ (9223372036854775807 < (sLen : Int) + (n : Int)) := by simp only [maxLen] at h63; omega
  have h48 : ¬ (281474976710656 < Builtin.nextslicecap (sLen + n) sCap * i.bytes) := by
    have := growslice_fits hg hby
    omega
  have hn' : ¬ (sLen + n ≤ sCap) := by omega
  rcases hu with ⟨e', hd⟩ | hd
  · simp [Builtin.append_, run_underlying ht, run_underlying hd, sizeOf, typeInfo, zeroValue, hi, hz, hn, hn', h63', h48, Question.forced, hold, hnew, newRow, grownCap]
    congr 2
    apply Array.ext'
    simp
  · simp [Builtin.append_, run_underlying ht, run_underlying hd, sizeOf, typeInfo, zeroValue, hi, hz, hn, hn', h63', h48, Question.forced, hold, hnew, newRow, grownCap]
    congr 2
    apply Array.ext'
    simp

/-- there is room: into the own block -/
theorem run_append_near (t u ty e : TypeId) (i : TypeInfo) (ht : P.underlying t = some (.slice e)) (hu : (∃ e', P.underlying u = some (.slice e')) ∨ P.underlying u = some .string) (hi : P.info? e = some i)
    (b sLen sCap : Nat) (cur : Array Value) (hg : w.heap[b]? = some (.cells cur e (0, 0)))
    (x : Value) (n : Nat) (news : List Value) (hn : (Builtin.lenOf x).run P w = .ok n w) (hnew : (Builtin.firstCells i.size n x).run P w = .ok news.toArray w) (h1 : ∀ u ∈ news, u.oneCell' = true)
    (hroom : sLen + n ≤ sCap) (hfit : sLen * i.size + news.length ≤ cur.size) :
    (Builtin.append_ #[t, u] ty #[.slice (some ⟨b, 0, none⟩) sLen sCap, x]).run P w =
      .ok (.slice (some ⟨b, 0, none⟩) (sLen + n) sCap) (w.setRow b (cur.toList.take (sLen * i.size) ++ news ++ cur.toList.drop (sLen * i.size + news.length)).toArray) := by
  have hst := run_storeCells_at P b (sLen * i.size) e news 0 cur w hg (by simpa using hfit) h1
  simp only [Nat.add_zero] at hst
  rcases hu with ⟨e', hd⟩ | hd
  · simp [Builtin.append_, run_underlying ht, run_underlying hd, sizeOf, typeInfo, hi, hn, hroom, hnew, addr_add, hst]
  · simp [Builtin.append_, run_underlying ht, run_underlying hd, sizeOf, typeInfo, hi, hn, hroom, hnew, addr_add, hst]

/-- nothing is appended -/
theorem run_append_none (t u ty e : TypeId) (i : TypeInfo) (ht : P.underlying t = some (.slice e)) (hu : (∃ e', P.underlying u = some (.slice e')) ∨ P.underlying u = some .string) (hi : P.info? e = some i)
    (b : Option Addr) (sLen sCap : Nat) (x : Value) (hn : (Builtin.lenOf x).run P w = .ok 0 w) (hnew : (Builtin.firstCells i.size 0 x).run P w = .ok #[] w) (hle : sLen ≤ sCap) :
    (Builtin.append_ #[t, u] ty #[.slice b sLen sCap, x]).run P w = .ok (.slice b sLen sCap) w := by
  rcases hu with ⟨e', hd⟩ | hd
  · cases b <;> simp [Builtin.append_, run_underlying ht, run_underlying hd, sizeOf, typeInfo, hi, hn, hle, hnew, storeCells]
  · cases b <;> simp [Builtin.append_, run_underlying ht, run_underlying hd, sizeOf, typeInfo, hi, hn, hle, hnew, storeCells]

theorem run_first_rows (w : World) (sz n b o cap : Nat) (vs : List Value) (hl : vs.length = n * sz) (hc : ∀ j v, vs[j]? = some v → w.cell? ⟨b, o + j, none⟩ = some v) :
    (Builtin.firstCells sz n (.slice (some ⟨b, o, none⟩) n cap)).run P w = .ok vs.toArray w :=
  run_firstCells_some w sz n ⟨b, o, none⟩ n cap vs hl fun j v h => by rw [addr_add]; exact hc j v h
end
end Go.Proofs.Ytehcfmohjcjmpaa.Sx
