/- Names of one version each: the plain law. -/
import Derived.Test.YtapkmgmcccgejaaNew
namespace Go.Proofs.Ytapkmgmcccgejaa
open Go.RowKit Go.Shelf

/-- Names of one version each, none of them ended. -/
structure Fresh (N : NM) (l : List (ByteArray × Ver)) : Prop where
  keys : N.keys = l.map (·.1)
  nodup : (l.map (·.1)).Nodup
  yes : ∀ p ∈ l, N.f p.1 = [p.2]
  no : ∀ s, s ∉ l.map (·.1) → N.f s = []
  xmax : ∀ p ∈ l, p.2.xmax = 0

theorem Fresh.empty : Fresh NM.empty [] := ⟨rfl, by simp, by simp, fun _ _ => rfl, by simp⟩

theorem bytes_ne {a b : ByteArray} (h : a ≠ b) : (a.toList == b.toList) = false := by
  rw [Bool.eq_false_iff]
  intro e
  have e := eq_of_beq e
  rw [ByteArray.toList_eq, ByteArray.toList_eq] at e
  exact h (ByteArray.ext (Array.ext' e))

theorem Fresh.others {N : NM} {l : List (ByteArray × Ver)} (h : Fresh N l) {L : LogM} (x : Int) {s : ByteArray} (hs : s ∉ l.map (·.1)) :
    N.others L x s = l.countP (fun p => L.state p.2.xmin != 3) := by
  unfold NM.others
  rw [h.keys, List.countP_map]
  refine List.countP_congr (fun p hp => ?_)
  have e : p.1 ≠ s := fun e => hs (by rw [← e]; exact List.mem_map_of_mem hp)
  have hc : p.2.counts L x = (L.state p.2.xmin != 3) := by
    unfold Ver.counts
    rw [h.xmax p hp]; simp
  simp only [Function.comp, otherQ, bytes_ne e, h.yes p hp, List.any_cons, List.any_nil, hc]
  simp

theorem may_nil {N : NM} {L : LogM} {x : Int} {s : ByteArray} (h : N.f s = []) : N.may L x s = (0, 0) := by
  unfold NM.may unseenL
  rw [h]
  simp [whos]

theorem at_nil {N : NM} {L : LogM} {x : Int} {s : ByteArray} (h : N.f s = []) : N.at_ L x s = -1 := by
  unfold NM.at_
  rw [h]; rfl

/-- A new name. -/
theorem Fresh.put {N : NM} {l : List (ByteArray × Ver)} (h : Fresh N l) {L : LogM} {x : Int} {t : Tab} (hs : t.name ∉ l.map (·.1)) (hok : putOk L x t = true) :
    (6 ≤ l.countP (fun p => L.state p.2.xmin != 3) ∧ N.put L x t = (N, 3)) ∨
      (l.countP (fun p => L.state p.2.xmin != 3) < 6 ∧ (N.put L x t).2 = 0 ∧ Fresh (N.put L x t).1 (l ++ [(t.name, ⟨x, 0, t⟩)])) := by
  have hf := h.no _ hs
  have hm := may_nil (L := L) (x := x) hf
  have ha := at_nil (L := L) (x := x) hf
  have ho := h.others (L := L) x hs
  unfold NM.put
  rw [hok, hm, ha, ho, hf, if_neg (by decide), if_neg (by decide), if_pos (by decide)]
  by_cases h6 : 6 ≤ l.countP (fun p => L.state p.2.xmin != 3)
  · left; exact ⟨h6, by rw [if_pos h6]⟩
  · right
    rw [if_neg h6]
    refine ⟨by omega, rfl, ?_⟩
    have hh : N.has t.name = false := by
      rw [Bool.eq_false_iff]; intro e
      exact hs (by rw [← h.keys]; exact NM.has_iff.1 e)
    refine ⟨?_, ?_, ?_, ?_, ?_⟩
    · simp [NM.set, hh, h.keys]
    · rw [List.map_append, List.nodup_append]
      refine ⟨h.nodup, by simp, ?_⟩
      intro a ha b hb
      simp at hb
      subst hb
      exact fun e => hs (by rw [← e]; exact ha)
    · intro p hp
      simp only [List.mem_append, List.mem_singleton] at hp
      rcases hp with hp | rfl
      · have e : p.1 ≠ t.name := fun e => hs (by rw [← e]; exact List.mem_map_of_mem hp)
        simp only [NM.set, if_neg e]; exact h.yes p hp
      · simp [NM.set]
    · intro s hs'
      simp only [List.map_append, List.mem_append, not_or] at hs'
      have e : s ≠ t.name := fun e => hs'.2 (by simp [e])
      simp only [NM.set, if_neg e]; exact h.no s hs'.1
    · intro p hp
      simp only [List.mem_append, List.mem_singleton] at hp
      rcases hp with hp | rfl
      · exact h.xmax p hp
      · rfl

/-- Two have begun. -/
def log2 : LogM := (LogM.empty.begin false).begin false
theorem log2_eq : log2 = ⟨[⟨1, 0, 0, false⟩, ⟨1, 0, 0, false⟩], 0⟩ := rfl
theorem log2_1 : log2.state 1 = 1 := rfl
theorem log2_2 : log2.state 2 = 1 := rfl
theorem log2_0 : log2.state 0 = 0 := rfl

theorem goodA : goodCols [colA] = true := by decide +kernel

theorem putOk_A {L : LogM} {x : Int} {s : ByteArray} {r : Int} (hx : L.state x = 1) (hs : nameOk s = true) (hr : 1 ≤ r ∧ r ≤ 100) : putOk L x (tabA s r) = true := by
  unfold putOk
  simp [hx, tabA, hs, goodA, hr.1, hr.2]

abbrev sT : ByteArray := ⟨#[116]⟩
def names1 : NM := (NM.empty.put log2 1 (tabA sT 3)).1

theorem fresh1 : (NM.empty.put log2 1 (tabA sT 3)).2 = 0 ∧ Fresh names1 [(sT, ⟨1, 0, tabA sT 3⟩)] := by
  rcases Fresh.empty.put (L := log2) (x := 1) (t := tabA sT 3) (by simp) (putOk_A rfl (by decide +kernel) (by decide)) with ⟨h, _⟩ | ⟨_, h1, h2⟩
  · simp at h
  · exact ⟨h1, h2⟩

theorem names1_f : names1.f sT = [⟨1, 0, tabA sT 3⟩] := fresh1.2.yes (sT, ⟨1, 0, tabA sT 3⟩) (by simp)

theorem unseen1 : unseenL log2 2 (names1.f sT) = [1] := by
  rw [names1_f]
  unfold unseenL
  have : ((whos [⟨1, 0, tabA sT 3⟩]).filter (unseenP log2 2)).eraseDups = [1] := by decide +kernel
  rw [this]; simp

theorem may1 : names1.may log2 2 sT = (75, 1) := by
  unfold NM.may
  rw [unseen1]; rfl

theorem ver1 : names1.ver log2 1 sT = some ⟨1, 0, tabA sT 3⟩ := by
  unfold NM.ver
  rw [names1_f]; rfl

theorem ver2 : names1.ver log2 2 sT = none := by
  unfold NM.ver
  rw [names1_f]; rfl

theorem all1 : names1.all log2 1 = [tabA sT 3] := by
  unfold NM.all
  rw [fresh1.2.keys]
  simp [NM.see, ver1]

end Go.Proofs.Ytapkmgmcccgejaa
