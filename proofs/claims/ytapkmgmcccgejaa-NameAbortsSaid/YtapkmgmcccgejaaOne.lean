/- One name alone: the plain law of NameOne. -/
import Derived.Test.YtapkmgmcccgejaaFair
namespace Go.Proofs.Ytapkmgmcccgejaa
open Go.RowKit Go.Shelf

/-- Names that hold one name at most; the last one who wrote it stands there. -/
structure One (N : NM) (last : Int) : Prop where
  keys : N.keys = [] ∨ N.keys = [sT]
  name : ∀ v ∈ N.f sT, v.t.name = sT
  last : last = 0 ∨ ∃ v ∈ N.f sT, v.xmin = last

theorem One.empty : One NM.empty 0 := ⟨.inl rfl, fun v hv => by simp [NM.empty] at hv, .inl rfl⟩

theorem One.all {N : NM} {last : Int} (h : One N last) (L : LogM) (x : Int) : N.all L x = [] ∨ ∃ t, N.all L x = [t] ∧ t.name = sT := by
  unfold NM.all
  rcases h.keys with e | e
  · rw [e]; exact .inl rfl
  · rw [e]
    cases hv : N.ver L x sT with
    | none => left; simp [NM.see, hv]
    | some v =>
      right
      refine ⟨v.t, by simp [NM.see, hv], h.name v ?_⟩
      unfold NM.ver at hv
      exact List.mem_of_find?_eq_some hv

theorem One.all_len {N : NM} {last : Int} (h : One N last) (L : LogM) (x : Int) : (N.all L x).length ≤ 1 := by
  rcases h.all L x with e | ⟨t, e, _⟩ <;> rw [e] <;> simp

/-- May says yes: all who did something are seen, or did not stay. -/
theorem may_sees {N : NM} {L : LogM} {x : Int} {s : ByteArray} (h : (N.may L x s).1 = 0) {who : Int} (hw : who ∈ whos (N.f s)) : who = 0 ∨ L.state who = 3 ∨ L.sees x who = true := by
  have hnil : unseenL L x (N.f s) = [] := by
    unfold NM.may at h
    cases hf : (unseenL L x (N.f s)).find? (fun y => L.state y == 1) with
    | some y => rw [hf] at h; simp at h
    | none =>
      rw [hf] at h
      cases hl : unseenL L x (N.f s) with
      | nil => rfl
      | cons a l => rw [hl] at h; simp at h
  have hn : ¬ who ∈ unseenL L x (N.f s) := by rw [hnil]; simp
  rw [mem_unseenL] at hn
  have hp : unseenP L x who = false := by
    cases h2 : unseenP L x who with
    | false => rfl
    | true => exact absurd ⟨hw, h2⟩ hn
  unfold unseenP at hp
  cases h0 : (who != 0)
  · left; simpa using h0
  · cases h1 : (L.state who != 3)
    · right; left; simpa using h1
    · rw [h0, h1] at hp
      right; right
      simpa using hp

theorem endAt_mem {vs : List Ver} {k : Nat} {x : Int} {v : Ver} (h : v ∈ endAt vs k x) : ∃ u ∈ vs, v.xmin = u.xmin ∧ v.t = u.t := by
  obtain ⟨i, hi⟩ := List.getElem?_of_mem h
  unfold endAt at hi
  rw [List.getElem?_modify] at hi
  obtain ⟨u, hu, rfl⟩ := Option.map_eq_some_iff.1 hi
  refine ⟨u, List.mem_of_getElem? hu, ?_⟩
  by_cases e : k = i
  · rw [if_pos e]; exact ⟨rfl, rfl⟩
  · rw [if_neg e]; exact ⟨rfl, rfl⟩

/-- Putting: refused, or whoever was last is seen or did not stay. -/
theorem One.put {N : NM} {last : Int} (h : One N last) (L : LogM) (x : Int) (r : Int) :
    ((N.put L x (tabA sT r)).2 ≠ 0 ∧ One (N.put L x (tabA sT r)).1 last) ∨
      ((N.put L x (tabA sT r)).2 = 0 ∧ One (N.put L x (tabA sT r)).1 x ∧ (last = 0 ∨ L.state last = 3 ∨ L.sees x last = true)) := by
  rcases N.put_cases L x (tabA sT r) with ⟨e, he, hne⟩ | ⟨vs, he, hok, hm, hvs⟩
  · left; rw [he]; exact ⟨hne, h⟩
  · right
    rw [he]
    have hk : (N.set (tabA sT r).name (vs ++ [⟨x, 0, tabA sT r⟩])).keys = [sT] := by
      show (if N.has sT = true then N.keys else N.keys ++ [sT]) = [sT]
      rcases h.keys with e | e
      · rw [if_neg (by rw [NM.has_iff, e]; simp), e]; rfl
      · rw [if_pos (by rw [NM.has_iff, e]; simp), e]
    have hf : (N.set (tabA sT r).name (vs ++ [⟨x, 0, tabA sT r⟩])).f sT = vs ++ [⟨x, 0, tabA sT r⟩] := by simp [NM.set, tabA]
    refine ⟨rfl, ⟨.inr hk, ?_, .inr ?_⟩, ?_⟩
    · rw [hf]
      intro v hv
      rcases List.mem_append.1 hv with hv | hv
      · rcases hvs with ⟨_, _, rfl⟩ | ⟨k, _, _, rfl⟩
        · exact h.name v hv
        · obtain ⟨u, hu, _, e⟩ := endAt_mem hv
          rw [e]; exact h.name u hu
      · simp only [List.mem_singleton] at hv
        subst hv; rfl
    · rw [hf]
      exact ⟨_, List.mem_append_right _ (List.mem_singleton.2 rfl), rfl⟩
    · rcases h.last with e | ⟨v, hv, e⟩
      · exact .inl e
      · refine may_sees hm (who := last) ?_
        unfold whos
        rw [List.mem_flatMap]
        exact ⟨v, hv, by simp [e]⟩

end Go.Proofs.Ytapkmgmcccgejaa
