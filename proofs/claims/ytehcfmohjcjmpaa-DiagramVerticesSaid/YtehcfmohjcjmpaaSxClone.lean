/- slices.Clone, at whatever element: from the kit's contract. -/
import Derived.Test.YtehcfmohjcjmpaaSxFin
import Derived.Shelf.SlicesE.Clone
import Derived.Ground.SlgnProg
namespace Go.Proofs.Ytehcfmohjcjmpaa.Sx
open Go Go.Shelf Go.RowKit Go.Lib

def cloneG (e : TypeId) (sz bytes : Nat) : List TV → Option TV
  | [.sl _ sz' rows] => if sz' = sz ∧ rows.length * bytes ≤ 140737488355328 then some (.sl (.own e) sz rows) else none
  | _ => none

section
variable {P : Program} {ρ : Go.Shelf.Ren}
set_option maxHeartbeats 2000000 in
set_option maxRecDepth 100000 in
/-- of none, but not nil -/
theorem clone_zero (L : SlLaysE0.n41 P ρ) (i0 : TypeInfo) (z : Value) (size bytes : Nat) (hi : P.info? (ρ.t 23) = some i0) (hz0 : i0.zero = some z) (hz1 : i0.size = size) (hz2 : i0.bytes = bytes) (hzs : z.cells.size = size) (hsz : 0 < size)
    (z23 : ∀ w, (Go.sizeOf (ρ.t 23)).run P w = .ok size w) (ad : Addr) (c : Nat) (w : World) :
    Calls P (ρ.f 41) #[.slice (some ad) 0 c] w fun e w' => ∃ v', e = .returned v' ∧ w'.ownsRow w.heap.size (ρ.t 23) size v' 0 [] ∧ Below w.heap.size w w' := by
  have mixed := L.mixed; have t4 := L.t4; have a4 := L.a4; have z4 := L.z4; have v4 := L.v4; have t22 := L.t22; have a22 := L.a22; have z22 := L.z22; have v22 := L.v22
  have q22 : ∀ (w : World) (a : Option Addr) (n c n' c' : Nat), (binOp .eql (ρ.t 22) (.slice a n c) (.slice none n' c')).run P w = .ok (.bool a.isNone) w := fun w a n c n' c' => Lib.run_eql_slice_nil w _ _ a n c n' c' L.t22
  have u22 : ∀ w, Sem.run P (underlying (ρ.t 22)) w = .ok (TypeDesc.slice (ρ.t 23)) w := run_underlying t22
  obtain ⟨_, _, FG⟩ := L.f41
  go_enter FG, SlBodyN.n41_ntmps ρ
  go_wp2_with (at_builtin; refine wpList_append_own _ rfl _ _ (ρ.t 22) rfl w.heap.size (ρ.t 23) i0 z size bytes t22 hi hz0 hz1 hz2 hzs hsz _ _ _ rfl (World.ownsRow_made w #[] 0 (Nat.le_refl _) (Nat.zero_le _) (by simp)) ad 0 c [] rfl ?qc1 ?qc2 ?qc3 ?qc4 ?qc5 ?qc6 ?_)
  case qc1 => simp
  case qc2 => intro j u hj; simp at hj
  case qc3 => intro u hu; simp at hu
  case qc4 => exact Nat.zero_le _
  case qc5 => simp
  case qc6 => simp
  intro v' w1 hown hgrow hnil
  go_wp2
  go_ret
  refine ⟨v', rfl, by simpa using hown, ?_⟩
  exact ((Below.refl _ w).alloc (Nat.le_refl _) _).grown hgrow (by simp) (by intro k hk; simp [Value.ownBlock] at hk; omega)

theorem below_same {n : Nat} {w w' : World} {ok : Nat → Prop} (h : Below n w w') (hok : ∀ b, ok b → b < n) : Same w w' ok ok := fun b hb => ⟨h.block b (hok b hb), hb⟩

theorem own_res {w w' : World} {ok : Nat → Prop} (hok : ∀ b, ok b → b < w.heap.size) (hb : Below w.heap.size w w') {e : TypeId} {sz : Nat} {rows : List (List TV)} {news : List Value} {v : Value} (hr : RowsAre w ok sz rows news)
    (ho : w'.ownsRow w.heap.size e sz v rows.length news) : RRep w.heap.size w' ok (.sl (.own e) sz rows) v := by
  obtain ⟨hl, ⟨rfl, h0⟩ | ⟨g, cap, cur, rfl, hg, hh, h1, h2, h3, h4⟩⟩ := ho
  · refine ⟨ok, [none], fun b hb' => ⟨fun _ => hb', Nat.lt_of_lt_of_le (hok b hb') hb.size⟩, ⟨by simp, by simp⟩, ?_⟩
    have hn : rows = [] := List.eq_nil_of_length_eq_zero h0
    subst hn
    exact ⟨none, none, 0, rfl, rfl, Nat.zero_le _, .inl ⟨rfl, rfl, rfl⟩⟩
  · have hlt : g < w'.heap.size := by
      rcases Nat.lt_or_ge g w'.heap.size with h | h
      · exact h
      · rw [Array.getElem?_eq_none h] at hh; cases hh
    refine ⟨ok, [some (g, cap)], fun b hb' => ⟨fun _ => hb', Nat.lt_of_lt_of_le (hok b hb') hb.size⟩, ⟨fun b K hm => ?_, by simp⟩, ?_⟩
    · simp at hm; obtain ⟨rfl, rfl⟩ := hm
      exact ⟨hg, hlt, fun hb' => absurd (hok _ hb') (by omega)⟩
    · refine ⟨some (g, cap), some ⟨g, 0, none⟩, cap, rfl, rfl, h2, .inr ⟨g, cur, rfl, rfl, hh, h3, h1, ?_⟩⟩
      refine (hr.to (below_same hb hok)).rep hh fun j u hj => ?_
      rw [← h4] at hj
      rw [List.getElem?_take] at hj
      split at hj
      · simpa using hj
      · cases hj

theorem clone_ok (L : SlLaysE0.n41 P ρ) (i0 : TypeInfo) (z : Value) (size bytes : Nat) (hi : P.info? (ρ.t 23) = some i0) (hz0 : i0.zero = some z) (hz1 : i0.size = size) (hz2 : i0.bytes = bytes) (hzs : z.cells.size = size) (hsz : 0 < size)
    (z23 : ∀ w, (Go.sizeOf (ρ.t 23)).run P w = .ok size w) (args : List TV) (r : TV) (h : cloneG (ρ.t 23) size bytes args = some r) : Sound P (ρ.f 41) args r := by
  unfold cloneG at h
  split at h
  · split at h
    · rename_i fl sz' rows hc
      obtain ⟨rfl, hbytes⟩ := hc
      obtain rfl := Option.some.inj h
      refine ⟨?_, fun w ok vs hok hv => ?_⟩
      · obtain ⟨nm, hn, hf⟩ := L.f41
        exact ⟨_, hf, hn, rfl⟩
      · obtain ⟨v, r, rfl, _, ht, rfl⟩ := hv
        obtain ⟨a, len, cap, rfl, rfl, hcap, hmax, _, hr⟩ := ht
        cases a with
        | none =>
          have hn : rows = [] := by
            rcases hr with h | ⟨b, o, e, _⟩
            · exact h
            · cases e
          subst hn
          refine (AnyE.slices_Clone_nil L _ _ w).mono fun e w' ⟨he, hw⟩ => ?_
          subst hw
          exact ⟨_, he, Below.refl _ _, own_res hok (Below.refl _ _) RowsAre.nil ⟨by simp, .inl ⟨rfl, rfl⟩⟩⟩
        | some ad =>
          rcases hr with rfl | ⟨b, o, e, hb, hr⟩
          · refine (clone_zero L i0 z sz' bytes hi hz0 hz1 hz2 hzs hsz z23 ad cap w).mono fun e w' ⟨v', he, ho, hw⟩ => ?_
            exact ⟨v', he, hw, own_res hok hw RowsAre.nil ho⟩
          · obtain rfl := Option.some.inj e
            obtain ⟨news, hn, hcells⟩ := hr.are
            refine (AnyE.slices_Clone L i0 z sz' bytes hi hz0 hz1 hz2 hzs hsz z23 b o rows.length cap news w hn.1 (Nat.le_trans hcap hmax) hbytes hcells ?_).mono fun e w' ⟨v', he, ho, _, hw⟩ => ?_
            · exact hn.2.1
            · exact ⟨v', he, hw, own_res hok hw hn ho⟩
    · cases h
  · cases h
end
end Go.Proofs.Ytehcfmohjcjmpaa.Sx
