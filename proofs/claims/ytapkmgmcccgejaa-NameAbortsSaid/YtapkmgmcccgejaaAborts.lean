/- Whatever an aborted one defined and dropped: the plain law of NameAborts. -/
import Derived.Test.YtapkmgmcccgejaaStays
namespace Go.Proofs.Ytapkmgmcccgejaa
open Go.RowKit Go.Shelf

abbrev sU : ByteArray := ⟨#[117]⟩
abbrev tT : Tab := tabA sT 1
abbrev tU : Tab := tabA sU 2

/-- The log: one begins; it is committed and a second one begins; that is aborted and a third one begins. -/
def logA : LogM := LogM.empty.begin false
def logB : LogM := (logA.commit 1).begin false
def logC : LogM := (logB.abort 2).begin false

def namesT : NM := (NM.empty.put logA 1 tT).1
def namesTU : NM := (namesT.put logA 1 tU).1

theorem freshT : (NM.empty.put logA 1 tT).2 = 0 ∧ Fresh namesT [(sT, ⟨1, 0, tT⟩)] := by
  rcases Fresh.empty.put (L := logA) (x := 1) (t := tT) (by simp) (putOk_A rfl (by decide +kernel) (by decide)) with ⟨h, _⟩ | ⟨_, h1, h2⟩
  · simp at h
  · exact ⟨h1, h2⟩

theorem freshTU : (namesT.put logA 1 tU).2 = 0 ∧ Fresh namesTU [(sT, ⟨1, 0, tT⟩), (sU, ⟨1, 0, tU⟩)] := by
  rcases freshT.2.put (L := logA) (x := 1) (t := tU) (fun h => by simp only [List.map_cons, List.map_nil, List.mem_singleton] at h; exact absurd h (by decide +kernel)) (putOk_A rfl (by decide +kernel) (by decide)) with ⟨h, _⟩ | ⟨_, h1, h2⟩
  · exact absurd h (by decide +kernel)
  · exact ⟨h1, h2⟩

/-- Names of which a first one, that was committed, made two, and a second one all the rest. -/
structure Ab (N : NM) : Prop where
  wf : N.Wf
  ver : ∀ s, ∀ v ∈ N.f s, (v.xmin = 1 ∧ (s = sT ∧ v.t = tT ∨ s = sU ∧ v.t = tU) ∨ v.xmin = 2) ∧ (v.xmax = 0 ∨ v.xmax = 2)
  hasT : ∃ v ∈ N.f sT, v.xmin = 1
  hasU : ∃ v ∈ N.f sU, v.xmin = 1

theorem endAt_mem2 {vs : List Ver} {k : Nat} {x : Int} {v : Ver} (h : v ∈ endAt vs k x) : ∃ u ∈ vs, v.xmin = u.xmin ∧ v.t = u.t ∧ (v.xmax = u.xmax ∨ v.xmax = x) := by
  obtain ⟨i, hi⟩ := List.getElem?_of_mem h
  unfold endAt at hi
  rw [List.getElem?_modify] at hi
  obtain ⟨u, hu, rfl⟩ := Option.map_eq_some_iff.1 hi
  refine ⟨u, List.mem_of_getElem? hu, ?_⟩
  by_cases e : k = i
  · rw [if_pos e]; exact ⟨rfl, rfl, .inr rfl⟩
  · rw [if_neg e]; exact ⟨rfl, rfl, .inl rfl⟩

theorem endAt_has {vs : List Ver} {k : Nat} {x y : Int} (h : ∃ v ∈ vs, v.xmin = y) : ∃ v ∈ endAt vs k x, v.xmin = y := by
  obtain ⟨v, hv, e⟩ := h
  obtain ⟨i, hi⟩ := List.getElem?_of_mem hv
  have : (endAt vs k x)[i]? = some (if k = i then { v with xmax := x } else v) := by
    unfold endAt
    rw [List.getElem?_modify, hi]; rfl
  refine ⟨_, List.mem_of_getElem? this, ?_⟩
  split <;> exact e

theorem Ab.set {N : NM} (h : Ab N) {s : ByteArray} {vs : List Ver} (hv : ∀ v ∈ vs, v.t.name = s ∧ (v.xmin = 1 ∧ (s = sT ∧ v.t = tT ∨ s = sU ∧ v.t = tU) ∨ v.xmin = 2) ∧ (v.xmax = 0 ∨ v.xmax = 2)) (hk : ∀ y, (∃ v ∈ N.f s, v.xmin = y) → ∃ v ∈ vs, v.xmin = y) : Ab (N.set s vs) := by
  refine ⟨h.wf.set (fun v hm => (hv v hm).1), ?_, ?_, ?_⟩
  · intro s' v hm
    simp only [NM.set] at hm
    split at hm
    · rename_i e; subst e; exact (hv v hm).2
    · exact h.ver s' v hm
  · simp only [NM.set]
    split
    · rename_i e; subst e; exact hk 1 h.hasT
    · exact h.hasT
  · simp only [NM.set]
    split
    · rename_i e; subst e; exact hk 1 h.hasU
    · exact h.hasU

theorem Ab.ends {N : NM} (h : Ab N) (s : ByteArray) (k : Nat) : ∀ v ∈ endAt (N.f s) k 2, v.t.name = s ∧ (v.xmin = 1 ∧ (s = sT ∧ v.t = tT ∨ s = sU ∧ v.t = tU) ∨ v.xmin = 2) ∧ (v.xmax = 0 ∨ v.xmax = 2) := by
  intro v hv
  obtain ⟨u, hu, e1, e2, e3⟩ := endAt_mem2 hv
  obtain ⟨h1, h2⟩ := h.ver s u hu
  rw [e1, e2]
  refine ⟨h.wf.named s u hu, h1, ?_⟩
  rcases e3 with e3 | e3
  · rw [e3]; exact h2
  · exact .inr e3

theorem Ab.put {N : NM} (h : Ab N) (L : LogM) (t : Tab) : Ab (N.put L 2 t).1 := by
  rcases N.put_cases L 2 t with ⟨e, he, _⟩ | ⟨vs, he, _, _, hvs⟩
  · rw [he]; exact h
  · rw [he]
    have hnew : ∀ v ∈ [(⟨2, 0, t⟩ : Ver)], v.t.name = t.name ∧ (v.xmin = 1 ∧ (t.name = sT ∧ v.t = tT ∨ t.name = sU ∧ v.t = tU) ∨ v.xmin = 2) ∧ (v.xmax = 0 ∨ v.xmax = 2) := by
      intro v hv
      simp only [List.mem_singleton] at hv
      subst hv
      exact ⟨rfl, .inr rfl, .inl rfl⟩
    rcases hvs with ⟨_, _, rfl⟩ | ⟨k, _, _, rfl⟩
    · refine h.set (fun v hv => ?_) (fun y ⟨v, hv, e⟩ => ⟨v, List.mem_append_left _ hv, e⟩)
      rcases List.mem_append.1 hv with hv | hv
      · exact ⟨h.wf.named _ v hv, h.ver _ v hv⟩
      · exact hnew v hv
    · refine h.set (fun v hv => ?_) (fun y hy => ?_)
      · rcases List.mem_append.1 hv with hv | hv
        · exact h.ends _ k v hv
        · exact hnew v hv
      · obtain ⟨v, hv, e⟩ := endAt_has (k := k) (x := 2) hy
        exact ⟨v, List.mem_append_left _ hv, e⟩

theorem Ab.drop {N : NM} (h : Ab N) (L : LogM) (s : ByteArray) : Ab (N.drop L 2 s).1 := by
  rcases N.drop_cases L 2 s with ⟨e, he, _⟩ | ⟨k, he, _⟩
  · rw [he]; exact h
  · rw [he]; exact h.set (h.ends s k) (fun y hy => endAt_has hy)

theorem Ab.start : Ab namesTU := by
  have hf := freshTU.2
  have hT : namesTU.f sT = [⟨1, 0, tT⟩] := hf.yes (sT, ⟨1, 0, tT⟩) (by simp)
  have hU : namesTU.f sU = [⟨1, 0, tU⟩] := hf.yes (sU, ⟨1, 0, tU⟩) (by simp)
  refine ⟨(NM.Wf.empty.put logA 1 tT).put logA 1 tU, ?_, ⟨_, by rw [hT]; exact List.mem_singleton.2 rfl, rfl⟩, ⟨_, by rw [hU]; exact List.mem_singleton.2 rfl, rfl⟩⟩
  intro s v hv
  by_cases e1 : s = sT
  · subst e1
    rw [hT] at hv
    simp only [List.mem_singleton] at hv
    subst hv
    exact ⟨.inl ⟨rfl, .inl ⟨rfl, rfl⟩⟩, .inl rfl⟩
  · by_cases e2 : s = sU
    · subst e2
      rw [hU] at hv
      simp only [List.mem_singleton] at hv
      subst hv
      exact ⟨.inl ⟨rfl, .inr ⟨rfl, rfl⟩⟩, .inl rfl⟩
    · have : namesTU.f s = [] := hf.no s (by simp [e1, e2])
      rw [this] at hv
      simp at hv

theorem Ab.ok : namesTU.Ok 2 := (NM.Ok.empty.put (L := logA) (LogM.Ok.begin LogM.Ok.empty false) 1 tT).put (L := logA) (LogM.Ok.begin LogM.Ok.empty false) 1 tU

/-! ### what the third one sees -/
theorem Ab.seen {N : NM} (h : Ab N) {s : ByteArray} {v : Ver} (hv : v ∈ N.f s) : v.seen logC 3 = decide (v.xmin = 1) := by
  obtain ⟨h1, h2⟩ := h.ver s v hv
  have hx : ((v.xmax != 0 && logC.state v.xmax != 3) && logC.sees 3 v.xmax) = false := by
    rcases h2 with e | e <;> rw [e] <;> decide +kernel
  unfold Ver.seen
  rw [hx]
  rcases h1 with ⟨e, _⟩ | e <;> rw [e] <;> decide +kernel

theorem Ab.whos {N : NM} (h : Ab N) {s : ByteArray} {who : Int} (hw : who ∈ whos (N.f s)) : unseenP logC 3 who = false := by
  unfold Go.Proofs.Ytapkmgmcccgejaa.whos at hw
  rw [List.mem_flatMap] at hw
  obtain ⟨v, hv, hm⟩ := hw
  obtain ⟨h1, h2⟩ := h.ver s v hv
  simp only [List.mem_cons, List.not_mem_nil, or_false] at hm
  have hcase : who = 0 ∨ who = 1 ∨ who = 2 := by
    rcases hm with rfl | rfl
    · rcases h1 with ⟨e, _⟩ | e <;> omega
    · omega
  rcases hcase with rfl | rfl | rfl <;> decide +kernel

theorem Ab.unseen {N : NM} (h : Ab N) (s : ByteArray) : unseenL logC 3 (N.f s) = [] := by
  cases hl : unseenL logC 3 (N.f s) with
  | nil => rfl
  | cons a l =>
    have : a ∈ unseenL logC 3 (N.f s) := by rw [hl]; exact List.mem_cons_self
    rw [mem_unseenL] at this
    rw [h.whos this.1] at this
    exact absurd this.2 (by decide)

theorem Ab.may {N : NM} (h : Ab N) (s : ByteArray) : N.may logC 3 s = (0, 0) := by
  unfold NM.may
  rw [h.unseen]; rfl

theorem Ab.mem_all {N : NM} (h : Ab N) (t : Tab) : t ∈ N.all logC 3 ↔ t = tT ∨ t = tU := by
  have key : ∀ s t, N.see logC 3 s = some t → t = tT ∨ t = tU := by
    intro s t ht
    unfold NM.see NM.ver at ht
    obtain ⟨v, hv, rfl⟩ := Option.map_eq_some_iff.1 ht
    have hm := List.mem_of_find?_eq_some hv
    have hp := List.find?_some hv
    rw [h.seen hm] at hp
    have hp := of_decide_eq_true hp
    rcases (h.ver s v hm).1 with ⟨_, ⟨_, e⟩ | ⟨_, e⟩⟩ | e
    · exact .inl e
    · exact .inr e
    · omega
  have key2 : ∀ s, (∃ v ∈ N.f s, v.xmin = 1) → s ∈ N.keys ∧ ∃ t, N.see logC 3 s = some t ∧ t.name = s := by
    rintro s ⟨v, hv, e⟩
    refine ⟨?_, ?_⟩
    · by_cases hk : s ∈ N.keys
      · exact hk
      · rw [h.wf.nokey s hk] at hv; simp at hv
    · cases hf : (N.f s).find? (Ver.seen logC 3) with
      | none =>
        have := List.find?_eq_none.1 hf v hv
        rw [h.seen hv] at this
        simp [e] at this
      | some u =>
        refine ⟨u.t, by unfold NM.see NM.ver; rw [hf]; rfl, h.wf.named s u (List.mem_of_find?_eq_some hf)⟩
  unfold NM.all
  rw [List.mem_filterMap]
  constructor
  · rintro ⟨s, _, hs⟩; exact key s t hs
  · rintro (rfl | rfl)
    · obtain ⟨hk, t, ht, hn⟩ := key2 sT h.hasT
      refine ⟨sT, hk, ?_⟩
      rcases key _ _ ht with rfl | rfl
      · exact ht
      · exact absurd hn (by decide +kernel)
    · obtain ⟨hk, t, ht, hn⟩ := key2 sU h.hasU
      refine ⟨sU, hk, ?_⟩
      rcases key _ _ ht with rfl | rfl
      · exact absurd hn (by decide +kernel)
      · exact ht

theorem Ab.all {N : NM} (h : Ab N) {ts : List Tab} (hp : ts.Perm (N.all logC 3)) (hs : NameSorted ts) : ts = [tT, tU] := by
  have hnd : (N.all logC 3).Nodup := List.Pairwise.of_map Tab.name (fun a b hab e => hab (congrArg Tab.name e)) (h.wf.names logC 3)
  have hp2 : [tT, tU].Perm (N.all logC 3) := by
    refine (List.perm_ext_iff_of_nodup ?_ hnd).2 (fun t => ?_)
    · have : tT ≠ tU := fun e => absurd (congrArg Tab.name e) (by decide +kernel)
      simp [this]
    · rw [h.mem_all]; simp
  refine sorted_same (h.wf.names logC 3) hp hp2 hs ?_
  unfold NameSorted
  simp only [List.pairwise_cons, List.mem_singleton, List.not_mem_nil, false_implies, implies_true, List.Pairwise.nil, and_true, forall_eq]
  decide +kernel

theorem Ab.at_ {N : NM} (h : Ab N) {s : ByteArray} (hs : ∃ v ∈ N.f s, v.xmin = 1) : ¬ N.at_ logC 3 s < 0 := by
  obtain ⟨v, hv, e⟩ := hs
  unfold NM.at_ idxOf
  cases hf : (N.f s).findIdx? (Ver.seen logC 3) with
  | none =>
    have := List.findIdx?_eq_none_iff.1 hf v hv
    rw [h.seen hv] at this
    simp [e] at this
  | some i => simp

theorem Ab.drop3 {N : NM} (h : Ab N) : (N.drop logC 3 sU).2 = 0 ∧ (N.drop logC 3 sU).1.f sT = N.f sT ∧ (N.drop logC 3 sU).1.Wf := by
  have hw := h.wf.drop logC 3 sU
  have hne : ¬ sT = sU := by decide +kernel
  revert hw
  unfold NM.drop
  rw [if_neg (by decide +kernel), h.may, if_neg (by decide), if_neg (h.at_ h.hasU)]
  intro hw
  exact ⟨rfl, by simp [NM.set, hne], hw⟩

theorem Ab.put3 {N N' : NM} (h : Ab N) (hf : N'.f sT = N.f sT) : (N'.put logC 3 (tabA sT 9)).2 = 0 := by
  have hok : putOk logC 3 (tabA sT 9) = true := putOk_A (by decide +kernel) (by decide +kernel) (by decide)
  have hm : N'.may logC 3 sT = (0, 0) := by
    unfold NM.may; rw [hf, h.unseen]; rfl
  have ha : ¬ N'.at_ logC 3 sT < 0 := by
    have := h.at_ h.hasT
    unfold NM.at_ at *; rw [hf]; exact this
  unfold NM.put
  rw [hok, if_neg (by decide), show (tabA sT 9).name = sT from rfl, hm, if_neg (by decide), if_neg ha]

end Go.Proofs.Ytapkmgmcccgejaa
