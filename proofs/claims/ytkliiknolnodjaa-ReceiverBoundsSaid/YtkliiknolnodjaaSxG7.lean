/- The forms of this seat's arguments. -/
import Derived.Test.YtkliiknolnodjaaRows
import Derived.Test.YtkliiknolnodjaaSxG5
import Derived.Test.YtkliiknolnodjaaSxG6
set_option maxRecDepth 100000
set_option linter.unusedSimpArgs false
set_option linter.unusedVariables false
namespace Go.Proofs.Ytkliiknolnodjaa.Sx
open Go Go.RowKit Go.ChangeShapes Go.WideShapes Go.ChangeAt
set_option maxRecDepth 100000
theorem agg_of {t : TypeId} {n : Nat} {a : TV} (hagg : isAggB Try.prog t = true) (h : ArgShape Try.prog n t a) : ∃ ts, a = .agg ts ∧ Shape Try.prog n t ts := by
  unfold ArgShape at h; rw [if_pos hagg] at h; exact h
theorem plain_of {t : TypeId} {n : Nat} {a : TV} (hagg : isAggB Try.prog t = false) (h : ArgShape Try.prog n t a) : Shape Try.prog n t [a] := by
  unfold ArgShape at h; rw [if_neg (by rw [hagg]; simp)] at h; exact h
theorem own : ownKnob Try.prog.godebug = none := by kernel_rfl
theorem laidOut : laidOutB Try.prog = true := by kernel_rfl
/-- rows that are each of a form are a list's -/
theorem rows_list {α : Type} {c : α → List TV} {S : List TV → Prop} {Q : α → Prop} (h : ∀ ts, S ts → ∃ x, ts = c x ∧ Q x) : ∀ {rows : List (List TV)}, (∀ r ∈ rows, S r) → ∃ l : List α, rows = rowsBy c l ∧ ∀ x ∈ l, Q x
  | [], _ => ⟨[], rfl, by simp⟩
  | r :: rows, hr => by
    obtain ⟨x, rfl, hx⟩ := h r (hr r (by simp))
    obtain ⟨l, rfl, hl⟩ := rows_list h (rows := rows) fun q hq => hr q (by simp [hq])
    refine ⟨x :: l, rfl, fun y hy => ?_⟩
    rcases List.mem_cons.1 hy with rfl | hy
    · exact hx
    · exact hl y hy
theorem shInt {n : Nat} {ts : List TV} (h : Shape Try.prog (n + 1) 3 ts) : ∃ a, ts = [.int .i64 a] ∧ IntKind.i64.has a := by
  unfold Shape at h; rw [Try.underlying3] at h; exact h
theorem shU8 {n : Nat} {ts : List TV} (h : Shape Try.prog (n + 1) 5 ts) : ∃ b : UInt8, ts = cByte b ∧ True := by
  unfold Shape at h; rw [Try.underlying5] at h
  obtain ⟨m, rfl, hm⟩ := h
  have hm : 0 ≤ m ∧ m ≤ 255 := hm
  refine ⟨UInt8.ofNat m.toNat, ?_, trivial⟩
  unfold cByte
  congr 2
  rw [UInt8.toNat_ofNat']
  omega
theorem shBytes {n : Nat} {ts : List TV} (h : Shape Try.prog (n + 2) 30 ts) : ∃ b : List UInt8, ts = [.sl .shared 1 (rowsBy cByte b)] := by
  unfold Shape at h; rw [Try.underlying30] at h
  obtain ⟨rows, rfl, _, hr⟩ := h
  obtain ⟨l, rfl, _⟩ := rows_list (c := cByte) (Q := fun _ => True) (fun ts h => shU8 h) hr
  exact ⟨l, rfl⟩
theorem shInts {n : Nat} {ts : List TV} (h : Shape Try.prog (n + 2) 22 ts) : ∃ b : List Int, ts = [.sl .shared 1 (rowsBy cInt b)] := by
  unfold Shape at h; rw [Try.underlying22] at h
  obtain ⟨rows, rfl, _, hr⟩ := h
  obtain ⟨l, rfl, _⟩ := rows_list (c := cInt) (Q := fun _ => True) (fun ts h => by obtain ⟨a, rfl, _⟩ := shInt h; exact ⟨a, rfl, trivial⟩) hr
  exact ⟨l, rfl⟩
theorem shBss {n : Nat} {ts : List TV} (h : Shape Try.prog (n + 3) 26 ts) : ∃ b : List (List UInt8), ts = [.sl .shared 1 (rowsBy cBs b)] := by
  unfold Shape at h; rw [Try.underlying26] at h
  obtain ⟨rows, rfl, _, hr⟩ := h
  obtain ⟨l, rfl, _⟩ := rows_list (c := cBs) (Q := fun _ => True) (fun ts h => by obtain ⟨a, rfl⟩ := shBytes h; exact ⟨a, rfl, trivial⟩) hr
  exact ⟨l, rfl⟩
theorem shOp {n : Nat} {ts : List TV} (h : Shape Try.prog (n + 3) 45 ts) : ∃ x, ts = cEv x := by
  unfold Shape at h; rw [Try.underlying45] at h
  obtain ⟨x, r, rfl, h1, y, r', rfl, h2, rfl⟩ := h
  obtain ⟨a, rfl, _⟩ := shInt h1
  obtain ⟨b, rfl⟩ := shBytes h2
  exact ⟨(a, b), rfl⟩
theorem shOps {n : Nat} {ts : List TV} (h : Shape Try.prog (n + 4) 37 ts) : ∃ b : List (Int × List UInt8), ts = [.sl .shared 2 (rowsBy cEv b)] := by
  unfold Shape at h; rw [Try.underlying37] at h
  obtain ⟨rows, rfl, _, hr⟩ := h
  obtain ⟨l, rfl, _⟩ := rows_list (c := cEv) (Q := fun _ => True) (fun ts h => by obtain ⟨x, rfl⟩ := shOp h; exact ⟨x, rfl, trivial⟩) hr
  exact ⟨l, rfl⟩
end Go.Proofs.Ytkliiknolnodjaa.Sx
