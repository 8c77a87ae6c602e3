/- The forms of this seat's arguments. -/
import Derived.Test.YtnflcbacobhoiaaSxFns
import Derived.Test.YtnflcbacobhoiaaSxKit
import Derived.Test.YtnflcbacobhoiaaSxRead
import Derived.Test.YtnflcbacobhoiaaRows
namespace Go.Proofs.Ytnflcbacobhoiaa.Sx
open Go Go.RowKit Go.ChangeShapes Go.WideShapes Go.ChangeAt

theorem sh3 {n : Nat} {ts : List TV} (h : Shape Try.prog (n + 1) 3 ts) : ∃ a, ts = [.int .i64 a] ∧ IntKind.i64.has a := by
  unfold Shape at h; rw [Try.underlying3] at h; exact h
theorem sh26 {n : Nat} {ts : List TV} (h : Shape Try.prog (n + 2) 26 ts) : ∃ a b, ts = [.int .i64 a, .int .i64 b] ∧ IntKind.i64.has a ∧ IntKind.i64.has b := by
  unfold Shape at h; rw [Try.underlying26] at h
  obtain ⟨x, r, rfl, h1, y, r', rfl, h2, rfl⟩ := h
  obtain ⟨a, rfl, ha⟩ := sh3 h1
  obtain ⟨b, rfl, hb⟩ := sh3 h2
  exact ⟨a, b, rfl, ha, hb⟩
theorem sh39 {n : Nat} {ts : List TV} (h : Shape Try.prog (n + 3) 39 ts) : ∃ a b c, ts = [.int .i64 a, .int .i64 b, .int .i64 c] ∧ IntKind.i64.has a ∧ IntKind.i64.has b ∧ IntKind.i64.has c := by
  unfold Shape at h; rw [Try.underlying39] at h
  obtain ⟨x, r, rfl, h1, y, r', rfl, h2, rfl⟩ := h
  obtain ⟨a, b, rfl, ha, hb⟩ := sh26 h1
  obtain ⟨c, rfl, hc⟩ := sh3 h2
  exact ⟨a, b, c, rfl, ha, hb, hc⟩
theorem agg_of {t : TypeId} {n : Nat} {a : TV} (hagg : isAggB Try.prog t = true) (h : ArgShape Try.prog n t a) : ∃ ts, a = .agg ts ∧ Shape Try.prog n t ts := by
  unfold ArgShape at h; rw [if_pos hagg] at h; exact h
theorem plain_of {t : TypeId} {n : Nat} {a : TV} (hagg : isAggB Try.prog t = false) (h : ArgShape Try.prog n t a) : Shape Try.prog n t [a] := by
  unfold ArgShape at h; rw [if_neg (by rw [hagg]; simp)] at h; exact h
theorem own : ownKnob Try.prog.godebug = none := by kernel_rfl
theorem laidOut : laidOutB Try.prog = true := by kernel_rfl

theorem sh44 {n : Nat} {ts : List TV} (h : Shape Try.prog (n + 4) 44 ts) : ∃ c1 c2 c3 d1 d2 d3, ts = [.int .i64 c1, .int .i64 c2, .int .i64 c3, .int .i64 d1, .int .i64 d2, .int .i64 d3] ∧ IntKind.i64.has c3 ∧ IntKind.i64.has d3 := by
  unfold Shape at h; rw [Try.underlying44] at h
  obtain ⟨x, r, rfl, h4, y, r', rfl, h5, rfl⟩ := h
  obtain ⟨c1, c2, c3, rfl, _, _, hc⟩ := sh39 h4
  obtain ⟨d1, d2, d3, rfl, _, _, hd⟩ := sh39 h5
  exact ⟨c1, c2, c3, d1, d2, d3, rfl, hc, hd⟩
theorem sh37 {n : Nat} {ts : List TV} (h : Shape Try.prog (n + 3) 37 ts) : ∃ a1 a2 b1 b2 c1 c2, ts = [.int .i64 a1, .int .i64 a2, .int .i64 b1, .int .i64 b2, .int .i64 c1, .int .i64 c2] := by
  unfold Shape at h; rw [Try.underlying37] at h
  obtain ⟨x, r, rfl, h1, y, r', rfl, h2, z, r'', rfl, h3, rfl⟩ := h
  obtain ⟨a1, a2, rfl, _, _⟩ := sh26 h1
  obtain ⟨b1, b2, rfl, _, _⟩ := sh26 h2
  obtain ⟨c1, c2, rfl, _, _⟩ := sh26 h3
  exact ⟨a1, a2, b1, b2, c1, c2, rfl⟩
theorem sh40 {n : Nat} {ts : List TV} (h : Shape Try.prog (n + 4) 40 ts) : ∃ d1 d2 d3 e1 e2 e3 f1 f2 f3, ts = [.int .i64 d1, .int .i64 d2, .int .i64 d3, .int .i64 e1, .int .i64 e2, .int .i64 e3, .int .i64 f1, .int .i64 f2, .int .i64 f3] := by
  unfold Shape at h; rw [Try.underlying40] at h
  obtain ⟨x, r, rfl, h1, y, r', rfl, h2, z, r'', rfl, h3, rfl⟩ := h
  obtain ⟨d1, d2, d3, rfl, _⟩ := sh39 h1
  obtain ⟨e1, e2, e3, rfl, _⟩ := sh39 h2
  obtain ⟨f1, f2, f3, rfl, _⟩ := sh39 h3
  exact ⟨d1, d2, d3, e1, e2, e3, f1, f2, f3, rfl⟩
def idC (p : Int × Int) : List TV := [.int .i64 p.1, .int .i64 p.2]
/-- rows that are each of a form are a list's -/
theorem rows_list {α : Type} {c : α → List TV} {S : List TV → Prop} (h : ∀ ts, S ts → ∃ x, ts = c x) : ∀ {rows : List (List TV)}, (∀ r ∈ rows, S r) → ∃ l : List α, rows = rowsBy c l
  | [], _ => ⟨[], rfl⟩
  | r :: rows, hr => by
    obtain ⟨x, rfl⟩ := h r (hr r (by simp))
    obtain ⟨l, rfl⟩ := rows_list h (rows := rows) fun q hq => hr q (by simp [hq])
    exact ⟨x :: l, rfl⟩
theorem sh5 {n : Nat} {ts : List TV} (h : Shape Try.prog (n + 1) 5 ts) : ∃ b : UInt8, ts = cByte b := by
  unfold Shape at h; rw [Try.underlying5] at h
  obtain ⟨m, rfl, hm⟩ := h
  have hm : 0 ≤ m ∧ m ≤ 255 := hm
  refine ⟨UInt8.ofNat m.toNat, ?_⟩
  unfold cByte
  congr 2
  rw [UInt8.toNat_ofNat']
  omega
theorem sh30 {n : Nat} {ts : List TV} (h : Shape Try.prog (n + 2) 30 ts) : ∃ b : List UInt8, ts = [.sl .shared 1 (rowsBy cByte b)] := by
  unfold Shape at h; rw [Try.underlying30] at h
  obtain ⟨rows, rfl, _, hr⟩ := h
  obtain ⟨l, rfl⟩ := rows_list (c := cByte) (fun ts h => sh5 h) hr
  exact ⟨l, rfl⟩
theorem sh24 {n : Nat} {ts : List TV} (h : Shape Try.prog (n + 3) 24 ts) : ∃ l : List (Int × Int), ts = [.sl .shared 2 (rowsBy idC l)] := by
  unfold Shape at h; rw [Try.underlying24] at h
  obtain ⟨rows, rfl, _, hr⟩ := h
  obtain ⟨l, rfl⟩ := rows_list (c := idC) (fun ts h => by obtain ⟨a, b, rfl, _⟩ := sh26 h; exact ⟨(a, b), rfl⟩) hr
  exact ⟨l, rfl⟩
theorem sh22 {n : Nat} {ts : List TV} (h : Shape Try.prog (n + 2) 22 ts) : ∃ l : List Int, ts = [.sl .shared 1 (rowsBy cInt l)] := by
  unfold Shape at h; rw [Try.underlying22] at h
  obtain ⟨rows, rfl, _, hr⟩ := h
  obtain ⟨l, rfl⟩ := rows_list (c := cInt) (fun ts h => by obtain ⟨a, rfl, _⟩ := sh3 h; exact ⟨a, rfl⟩) hr
  exact ⟨l, rfl⟩
theorem sh32 {n : Nat} {ts : List TV} (h : Shape Try.prog (n + 4) 32 ts) : ∃ (l : List (Int × Int)) (s : Int), ts = [.sl .shared 2 (rowsBy idC l), .int .i64 s] := by
  unfold Shape at h; rw [Try.underlying32] at h
  obtain ⟨x, r, rfl, h1, y, r', rfl, h2, rfl⟩ := h
  obtain ⟨l, rfl⟩ := sh24 h1
  obtain ⟨s, rfl, _⟩ := sh3 h2
  exact ⟨l, s, rfl⟩
theorem sh49 {n : Nat} {ts : List TV} (h : Shape Try.prog (n + 3) 49 ts) : ∃ a b c d, ts = [.int .i64 a, .int .i64 b, .int .i64 c, .int .i64 d] := by
  unfold Shape at h; rw [Try.underlying49] at h
  obtain ⟨x, r, rfl, h1, y, r', rfl, h2, rfl⟩ := h
  obtain ⟨a, b, rfl, _⟩ := sh26 h1
  obtain ⟨c, d, rfl, _⟩ := sh26 h2
  exact ⟨a, b, c, d, rfl⟩
end Go.Proofs.Ytnflcbacobhoiaa.Sx
