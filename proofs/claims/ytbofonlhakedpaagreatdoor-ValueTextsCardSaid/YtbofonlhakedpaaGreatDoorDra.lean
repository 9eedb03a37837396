/-
  Draws with symbolic places.
-/
import Derived.Test.YtbofonlhakedpaaGreatDoorTvd
namespace Go.Tv
set_option maxHeartbeats 4000000
def mapE (f : Nat -> Nat) : Eff -> Eff
  | .put j => .put (f j)
  | .upto R => .upto (R.map f)
  | e => e
theorem commutes_map (f : Nat -> Nat) (r : Option Nat) (e : Eff) (h : commutes (r.map f) (mapE f e) = true) : commutes r e = true := by
  cases e with
  | quiet => rfl
  | new => rfl
  | all => cases r with
    | none => rfl
    | some i => simp [commutes, mapE] at h
  | put j => cases r with
    | none => rfl
    | some i =>
      simp only [mapE, commutes, Option.map_some, bne_iff_ne, ne_eq] at h ⊢
      intro e; exact h (by rw [e])
  | upto R => cases r with
    | none => rfl
    | some i =>
      simp only [mapE, commutes, Option.map_some, Bool.not_eq_true'] at h ⊢
      cases hc : R.contains i with
      | false => rfl
      | true =>
        have : (R.map f).contains (f i) = true := by
          simp only [List.contains_iff_mem, List.mem_map] at hc ⊢
          exact ⟨i, hc, rfl⟩
        rw [this] at h; cases h
theorem effR_map (f : Nat -> Nat) (a b : Eff) (r q : Option Nat) (h : effR (mapE f a) (r.map f) (mapE f b) (q.map f) = true) : effR a r b q = true := by
  have e1 : ∀ (e : Eff) (r q : Option Nat), effR .quiet r e q = commutes r e := fun e r q => by cases e <;> rfl
  have e2 : ∀ (e : Eff) (r q : Option Nat), e ≠ .quiet -> effR e r .quiet q = commutes q e := fun e r q he => by
    cases e <;> first | rfl | exact absurd rfl he
  have ef : ∀ (a b : Eff) (r q : Option Nat), a ≠ .quiet -> b ≠ .quiet -> effR a r b q = false := fun a b r q ha hb => by
    cases a <;> cases b <;> first | rfl | exact absurd rfl ha | exact absurd rfl hb
  have hn : ∀ e, e ≠ .quiet -> mapE f e ≠ .quiet := fun e he => by cases e <;> first | (exact absurd rfl he) | (simp [mapE])
  by_cases ha : a = .quiet
  . subst ha
    rw [e1]
    exact commutes_map f r b (by rw [<- e1 _ _ (q.map f)]; exact h)
  . by_cases hb : b = .quiet
    . subst hb
      rw [e2 _ _ _ ha]
      exact commutes_map f q a (by rw [<- e2 _ (r.map f) _ (hn a ha)]; exact h)
    . rw [ef _ _ _ _ (hn a ha) (hn b hb)] at h; cases h
theorem drawE_map {ops : Array Oper} {es : List Eff} {rs : List (Option Nat)} (f : Nat -> Nat) (h : drawE ops (es.map (mapE f)) (rs.map (Option.map f)) = true) : drawE ops es rs = true := by
  have ge : ∀ i, (es.map (mapE f)).getD i .all = mapE f (es.getD i .all) := fun i => by
    rw [List.getD_eq_getElem?_getD, List.getD_eq_getElem?_getD, List.getElem?_map]
    cases es[i]? <;> rfl
  have gr : ∀ i, (rs.map (Option.map f)).getD i none = (rs.getD i none).map f := fun i => by
    rw [List.getD_eq_getElem?_getD, List.getD_eq_getElem?_getD, List.getElem?_map]
    cases rs[i]? <;> rfl
  have hp : ∀ i j, pairE ops (es.map (mapE f)) (rs.map (Option.map f)) i j = true -> pairE ops es rs i j = true := fun i j hp => by
    simp only [pairE, Bool.and_eq_true, ge, gr] at hp ⊢
    exact ⟨hp.1, effR_map f _ _ _ _ hp.2⟩
  simp only [drawE, Bool.and_eq_true, List.all_eq_true (l := List.range _), Bool.or_eq_true] at h ⊢
  exact ⟨h.1, fun j hj i hi => (h.2 j hj i hi).imp id (hp i j)⟩
end Go.Tv
