/- The forms of this seat's arguments. -/
import Derived.Test.YtimgmeolllcapaaSxFns
import Derived.Test.YtimgmeolllcapaaSxData
import Derived.Test.YtimgmeolllcapaaSxRead
import Derived.Test.YtimgmeolllcapaaRows
namespace Go.Proofs.Ytimgmeolllcapaa.Sx
open Go Go.RowKit Go.ChangeShapes Go.WideShapes Go.ChangeAt
theorem shInt {n : Nat} {ts : List TV} (h : Shape Try.prog (n + 1) 3 ts) : ∃ a, ts = [.int .i64 a] ∧ IntKind.i64.has a := by
  unfold Shape at h; rw [Try.underlying3] at h; exact h
theorem shID {n : Nat} {ts : List TV} (h : Shape Try.prog (n + 2) 24 ts) : ∃ a b, ts = [.int .i64 a, .int .i64 b] ∧ IntKind.i64.has a ∧ IntKind.i64.has b := by
  unfold Shape at h; rw [Try.underlying24] at h
  obtain ⟨x, r, rfl, h1, y, r', rfl, h2, rfl⟩ := h
  obtain ⟨a, rfl, ha⟩ := shInt h1
  obtain ⟨b, rfl, hb⟩ := shInt h2
  exact ⟨a, b, rfl, ha, hb⟩
theorem shDart {n : Nat} {ts : List TV} (h : Shape Try.prog (n + 3) 26 ts) : ∃ x : Dart, ts = Dart.c x := by
  unfold Shape at h; rw [Try.underlying26] at h
  obtain ⟨x, r, rfl, h1, y, r', rfl, h2, rfl⟩ := h
  obtain ⟨a, b, rfl, _⟩ := shID h1
  obtain ⟨c, rfl, _⟩ := shInt h2
  exact ⟨⟨⟨a, b⟩, c⟩, rfl⟩
theorem agg_of {t : TypeId} {n : Nat} {a : TV} (hagg : isAggB Try.prog t = true) (h : ArgShape Try.prog n t a) : ∃ ts, a = .agg ts ∧ Shape Try.prog n t ts := by
  unfold ArgShape at h; rw [if_pos hagg] at h; exact h
theorem plain_of {t : TypeId} {n : Nat} {a : TV} (hagg : isAggB Try.prog t = false) (h : ArgShape Try.prog n t a) : Shape Try.prog n t [a] := by
  unfold ArgShape at h; rw [if_neg (by rw [hagg]; simp)] at h; exact h
theorem own : ownKnob Try.prog.godebug = none := by kernel_rfl
theorem laidOut : laidOutB Try.prog = true := by kernel_rfl
/-- rows that are each of a form are a list's -/
theorem rows_list {α : Type} {c : α → List TV} {S : List TV → Prop} (h : ∀ ts, S ts → ∃ x, ts = c x) : ∀ {rows : List (List TV)}, (∀ r ∈ rows, S r) → ∃ l : List α, rows = rowsBy c l
  | [], _ => ⟨[], rfl⟩
  | r :: rows, hr => by
    obtain ⟨x, rfl⟩ := h r (hr r (by simp))
    obtain ⟨l, rfl⟩ := rows_list h (rows := rows) fun q hq => hr q (by simp [hq])
    exact ⟨x :: l, rfl⟩
theorem shDarts {n : Nat} {ts : List TV} (h : Shape Try.prog (n + 4) 22 ts) : ∃ l : List Dart, ts = [.sl .shared 3 (rowsBy Dart.c l)] := by
  unfold Shape at h; rw [Try.underlying22] at h
  obtain ⟨rows, rfl, _, hr⟩ := h
  obtain ⟨l, rfl⟩ := rows_list (c := Dart.c) (fun ts h => shDart h) hr
  exact ⟨l, rfl⟩
theorem shDart2 {n : Nat} {ts : List TV} (h : Shape Try.prog (n + 4) 36 ts) : ∃ x y : Dart, ts = [.int .i64 x.e.s, .int .i64 x.e.n, .int .i64 x.d, .int .i64 y.e.s, .int .i64 y.e.n, .int .i64 y.d] := by
  unfold Shape at h; rw [Try.underlying36] at h
  obtain ⟨x, r, rfl, h1, y, r', rfl, h2, rfl⟩ := h
  obtain ⟨x, rfl⟩ := shDart h1
  obtain ⟨y, rfl⟩ := shDart h2
  exact ⟨x, y, rfl⟩
end Go.Proofs.Ytimgmeolllcapaa.Sx
