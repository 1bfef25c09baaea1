/- Whoever does not write a name sees the same: the plain law of NameStays. -/
import Derived.Test.YtapkmgmcccgejaaOne
import Derived.Test.YtapkmgmcccgejaaTabsR
namespace Go.Proofs.Ytapkmgmcccgejaa
open Go.RowKit Go.Shelf

/-! ### the log -/
namespace LogM
theorem one_set {L L' : LogM} {x : Int} {t : Tx} (hx : L.isTx x = true) (h : L'.txs = L.txs.set (x.toNat - 1) t) (y : Int) : L'.one y = if y = x then t else L.one y := by
  simp only [isTx, decide_eq_true_eq] at hx
  have hn : x.toNat - 1 < L.txs.length := by have := hx.2; unfold n at this; omega
  unfold one get
  rw [h]
  by_cases hy : 1 ≤ y
  · rw [if_pos hy, List.getElem?_set]
    by_cases e : y = x
    · subst e
      simp [hn]
    · rw [if_neg (by omega), if_neg e]
      simp [hy]
  · rw [if_neg hy, if_neg (by omega), if_neg hy]

theorem isTx_set {L L' : LogM} {x : Int} {t : Tx} (h : L'.txs = L.txs.set (x.toNat - 1) t) (y : Int) : L'.isTx y = L.isTx y := by
  unfold isTx n; rw [h, List.length_set]

theorem one_push {L L' : LogM} {t : Tx} (h : L'.txs = L.txs ++ [t]) (y : Int) : L'.one y = if y = (L.n : Int) + 1 then t else L.one y := by
  unfold one get n
  rw [h]
  by_cases hy : 1 ≤ y
  · rw [if_pos hy]
    by_cases e : y = (L.txs.length : Int) + 1
    · subst e
      rw [if_pos rfl, List.getElem?_append_right (by omega)]
      simp
    · rw [if_neg e]
      by_cases hlt : y.toNat - 1 < L.txs.length
      · rw [List.getElem?_append_left hlt]; simp [hy]
      · rw [List.getElem?_append_right (by omega)]
        have : y.toNat - 1 - L.txs.length ≠ 0 := by omega
        simp [hy]
        rw [List.getElem?_eq_none (by simp; omega), List.getElem?_eq_none (by omega)]
  · rw [if_neg hy, if_neg (by omega), if_neg hy]

theorem isTx_push {L L' : LogM} {t : Tx} (h : L'.txs = L.txs ++ [t]) (y : Int) : L'.isTx y = (L.isTx y || decide (y = (L.n : Int) + 1)) := by
  unfold isTx n
  rw [h, List.length_append, Bool.eq_iff_iff, Bool.or_eq_true, decide_eq_true_eq, decide_eq_true_eq, decide_eq_true_eq, List.length_singleton]
  omega
end LogM

/-- Transaction me runs, and its snapshot is of an elder time. -/
structure Me (L : LogM) (me S : Int) : Prop where
  st : L.state me = 1
  snap : L.snapshot me = S
  clock : S ≤ L.clock

theorem Me.isTx {L : LogM} {me S : Int} (h : Me L me S) : L.isTx me = true := LogM.state_isTx (by rw [h.st]; decide)

theorem begin_txs {L : LogM} {r : Bool} (h : L.n ≠ 200) : (L.begin r).txs = L.txs ++ [⟨1, 0, L.clock, r⟩] ∧ (L.begin r).clock = L.clock := by
  unfold LogM.begin; rw [if_neg h]; exact ⟨rfl, rfl⟩

/-- The same is seen by me. -/
def SeesSame (L L' : LogM) (me : Int) : Prop := ∀ y, L'.sees me y = L.sees me y

theorem sees_iff {L : LogM} {x y : Int} : L.sees x y = true ↔ L.isTx x = true ∧ L.isTx y = true ∧ (x = y ∨ L.state y = 2 ∧ L.csn y ≤ L.snapshot x) := by
  unfold LogM.sees
  constructor
  · intro h
    split at h
    · rename_i hb
      refine ⟨hb.1, hb.2, ?_⟩
      simpa using h
    · cases h
  · rintro ⟨h1, h2, h3⟩
    rw [if_pos ⟨h1, h2⟩]
    simpa using h3

theorem bool_same {a b : Bool} (h : a = true ↔ b = true) : a = b := Bool.eq_iff_iff.2 h

theorem Me.begin {L : LogM} {me S : Int} (h : Me L me S) (r : Bool) : Me (L.begin r) me S ∧ SeesSame L (L.begin r) me := by
  by_cases hn : L.n = 200
  · have e : L.begin r = L := by unfold LogM.begin; rw [if_pos hn]
    rw [e]; exact ⟨h, fun _ => rfl⟩
  · obtain ⟨h1, h2⟩ := begin_txs (r := r) hn
    have hone := LogM.one_push h1
    have hme := h.isTx
    have hle : me ≤ L.n := by have := hme; simp only [LogM.isTx, decide_eq_true_eq] at this; omega
    have hom : (L.begin r).one me = L.one me := by rw [hone, if_neg (by omega)]
    refine ⟨⟨?_, ?_, by rw [h2]; exact h.clock⟩, fun y => bool_same ?_⟩
    · have := h.st; unfold LogM.state at *; rw [hom]; exact this
    · have := h.snap; unfold LogM.snapshot at *; rw [hom]; exact this
    · rw [sees_iff, sees_iff, LogM.isTx_push h1, LogM.isTx_push h1]
      have hs : (L.begin r).snapshot me = L.snapshot me := by unfold LogM.snapshot; rw [hom]
      rw [hs]
      by_cases e : y = (L.n : Int) + 1
      · have h3 : (L.begin r).state y = 1 := by unfold LogM.state; rw [hone, if_pos e]
        have h4 : L.isTx y = false := by simp [LogM.isTx]; omega
        rw [h3, h4]
        constructor
        · rintro ⟨_, _, h | h⟩
          · omega
          · omega
        · rintro ⟨_, h, _⟩; cases h
      · have h3 : (L.begin r).one y = L.one y := by rw [hone, if_neg e]
        unfold LogM.state LogM.csn
        rw [h3]
        simp [e, hme]

theorem Me.commit {L : LogM} {me S x : Int} (h : Me L me S) (hx : x ≠ me) : Me (L.commit x) me S ∧ SeesSame L (L.commit x) me := by
  by_cases hs : L.state x = 1
  · have e : (L.commit x).txs = L.txs.set (x.toNat - 1) { L.one x with state := 2, csn := L.clock + 1 } ∧ (L.commit x).clock = L.clock + 1 := by
      unfold LogM.commit; rw [if_pos hs]; exact ⟨rfl, rfl⟩
    have hxt : L.isTx x = true := LogM.state_isTx (by rw [hs]; decide)
    have hone := LogM.one_set hxt e.1
    have hom : (L.commit x).one me = L.one me := by rw [hone, if_neg (fun h => hx h.symm)]
    have hsn : (L.commit x).snapshot me = L.snapshot me := by unfold LogM.snapshot; rw [hom]
    refine ⟨⟨?_, ?_, by rw [e.2]; have := h.clock; omega⟩, fun y => bool_same ?_⟩
    · have := h.st; unfold LogM.state at *; rw [hom]; exact this
    · rw [hsn]; exact h.snap
    · rw [sees_iff, sees_iff, LogM.isTx_set e.1, LogM.isTx_set e.1, hsn, h.snap]
      by_cases ey : y = x
      · subst ey
        have h3 : (L.commit y).csn y = L.clock + 1 := by unfold LogM.csn; rw [hone, if_pos rfl]
        rw [h3, hs]
        have := h.clock
        constructor
        · rintro ⟨_, _, h | h⟩
          · exact absurd h.symm hx
          · omega
        · rintro ⟨_, _, h | h⟩
          · exact absurd h.symm hx
          · omega
      · have h3 : (L.commit x).one y = L.one y := by rw [hone, if_neg ey]
        unfold LogM.state LogM.csn
        rw [h3]
  · have e : L.commit x = L := by unfold LogM.commit; rw [if_neg hs]
    rw [e]; exact ⟨h, fun _ => rfl⟩

theorem Me.abort {L : LogM} {me S x : Int} (h : Me L me S) (hx : x ≠ me) : Me (L.abort x) me S ∧ SeesSame L (L.abort x) me := by
  by_cases hs : L.state x = 1
  · have e : (L.abort x).txs = L.txs.set (x.toNat - 1) { L.one x with state := 3 } ∧ (L.abort x).clock = L.clock := by
      unfold LogM.abort; rw [if_pos hs]; exact ⟨rfl, rfl⟩
    have hxt : L.isTx x = true := LogM.state_isTx (by rw [hs]; decide)
    have hone := LogM.one_set hxt e.1
    have hom : (L.abort x).one me = L.one me := by rw [hone, if_neg (fun h => hx h.symm)]
    have hsn : (L.abort x).snapshot me = L.snapshot me := by unfold LogM.snapshot; rw [hom]
    refine ⟨⟨?_, ?_, by rw [e.2]; exact h.clock⟩, fun y => bool_same ?_⟩
    · have := h.st; unfold LogM.state at *; rw [hom]; exact this
    · rw [hsn]; exact h.snap
    · rw [sees_iff, sees_iff, LogM.isTx_set e.1, LogM.isTx_set e.1, hsn]
      by_cases ey : y = x
      · subst ey
        have h3 : (L.abort y).state y = 3 := by unfold LogM.state; rw [hone, if_pos rfl]
        rw [h3, hs]
        constructor
        · rintro ⟨_, _, h | h⟩
          · exact absurd h.symm hx
          · omega
        · rintro ⟨_, _, h | h⟩
          · exact absurd h.symm hx
          · omega
      · have h3 : (L.abort x).one y = L.one y := by rw [hone, if_neg ey]
        unfold LogM.state LogM.csn
        rw [h3]
  · have e : L.abort x = L := by unfold LogM.abort; rw [if_neg hs]
    rw [e]; exact ⟨h, fun _ => rfl⟩

/-! ### names -/
/-- One who is seen by me, who runs, was not aborted. -/
theorem Me.seen_state {L : LogM} {me S y : Int} (h : Me L me S) (hs : L.sees me y = true) : (y != 0 && L.state y != 3) = true := by
  obtain ⟨_, h2, h3⟩ := sees_iff.1 hs
  have hy : y ≠ 0 := by simp only [LogM.isTx, decide_eq_true_eq] at h2; omega
  have h4 : L.state y ≠ 3 := by
    rcases h3 with h3 | h3
    · rw [← h3, h.st]; decide
    · rw [h3.1]; decide
  simp [hy, h4]

theorem Me.seen {L : LogM} {me S : Int} (h : Me L me S) (v : Ver) : v.seen L me = (L.sees me v.xmin && !L.sees me v.xmax) := by
  unfold Ver.seen
  cases hs : L.sees me v.xmax with
  | false => simp
  | true => rw [h.seen_state hs]; rfl

theorem see_same {L L' : LogM} {me S S' : Int} (h : Me L me S) (h' : Me L' me S') (hs : SeesSame L L' me) (N : NM) : N.all L' me = N.all L me := by
  have e : Ver.seen L' me = Ver.seen L me := by
    funext v
    rw [h.seen, h'.seen, hs, hs]
  unfold NM.all
  have : N.see L' me = N.see L me := by
    funext s
    unfold NM.see NM.ver
    rw [e]
  rw [this]

/-- Names as Put and Drop make them. -/
structure NM.Wf (N : NM) : Prop where
  nodup : N.keys.Nodup
  nokey : ∀ s, s ∉ N.keys → N.f s = []
  named : ∀ s, ∀ v ∈ N.f s, v.t.name = s

theorem NM.Wf.empty : NM.empty.Wf := ⟨by simp [NM.empty], fun _ _ => rfl, fun s v hv => by simp [NM.empty] at hv⟩

theorem NM.Wf.set {N : NM} (h : N.Wf) {s : ByteArray} {vs : List Ver} (hv : ∀ v ∈ vs, v.t.name = s) : (N.set s vs).Wf := by
  refine ⟨?_, ?_, ?_⟩
  · simp only [NM.set]
    split
    · exact h.nodup
    · rename_i hn
      rw [NM.has_iff] at hn
      rw [List.nodup_append]
      refine ⟨h.nodup, by simp, ?_⟩
      intro a ha b hb e
      simp only [List.mem_singleton] at hb
      subst hb; subst e
      exact hn ha
  · intro s' hs'
    simp only [NM.set] at hs' ⊢
    have hne : ¬ s' = s := by
      rintro rfl
      split at hs'
      · rename_i hn; exact hs' (NM.has_iff.1 hn)
      · exact hs' (by simp)
    rw [if_neg hne]
    refine h.nokey s' (fun hm => hs' ?_)
    split
    · exact hm
    · exact List.mem_append_left _ hm
  · intro s' v hv'
    simp only [NM.set] at hv'
    split at hv'
    · rename_i e; rw [e]; exact hv v hv'
    · exact h.named s' v hv'

theorem endAt_named {vs : List Ver} {s : ByteArray} (h : ∀ v ∈ vs, v.t.name = s) (k : Nat) (x : Int) : ∀ v ∈ endAt vs k x, v.t.name = s := by
  intro v hv
  obtain ⟨u, hu, _, e⟩ := endAt_mem hv
  rw [e]; exact h u hu

theorem NM.Wf.put {N : NM} (h : N.Wf) (L : LogM) (x : Int) (t : Tab) : (N.put L x t).1.Wf := by
  rcases N.put_cases L x t with ⟨e, he, _⟩ | ⟨vs, he, _, _, hvs⟩
  · rw [he]; exact h
  · rw [he]
    refine h.set (fun v hv => ?_)
    rcases List.mem_append.1 hv with hv | hv
    · rcases hvs with ⟨_, _, rfl⟩ | ⟨k, _, _, rfl⟩
      · exact h.named _ v hv
      · exact endAt_named (h.named _) k x v hv
    · simp only [List.mem_singleton] at hv
      subst hv; rfl

theorem NM.drop_cases (N : NM) (L : LogM) (x : Int) (s : ByteArray) :
    (∃ e, N.drop L x s = (N, e) ∧ e ≠ 0) ∨ ∃ k : Nat, N.drop L x s = (N.set s (endAt (N.f s) k x), 0) ∧ L.state x = 1 ∧ (N.may L x s).1 = 0 ∧ N.at_ L x s = k ∧ k < (N.f s).length := by
  unfold NM.drop
  by_cases h0 : L.state x ≠ 1
  · left; exact ⟨1, by rw [if_pos h0], by decide⟩
  · rw [if_neg h0]
    by_cases h1 : (N.may L x s).1 ≠ 0
    · left; exact ⟨_, by rw [if_pos h1], h1⟩
    · rw [if_neg h1]
      rcases at_range (L := L) (N := N) (x := x) (s := s) with ha | ⟨k, v, ha, hv, _⟩
      · left; exact ⟨60, by rw [ha, if_pos (by decide)], by decide⟩
      · right
        refine ⟨k, ?_, by omega, by omega, ha, (List.getElem?_eq_some_iff.1 hv).1⟩
        rw [ha, if_neg (by omega)]; simp

theorem NM.Wf.drop {N : NM} (h : N.Wf) (L : LogM) (x : Int) (s : ByteArray) : (N.drop L x s).1.Wf := by
  rcases N.drop_cases L x s with ⟨e, he, _⟩ | ⟨k, he, _⟩
  · rw [he]; exact h
  · rw [he]; exact h.set (endAt_named (h.named _) k x)

theorem NM.Ok.drop {N : NM} {M : Nat} (h : N.Ok M) {L : LogM} (hL : L.Ok) (x : Int) (s : ByteArray) : (N.drop L x s).1.Ok (M + 1) := by
  rcases N.drop_cases L x s with ⟨e, he, _⟩ | ⟨k, he, hs, _⟩
  · rw [he]
    exact ⟨by have := h.keys; simp only; omega, fun s => by have := h.len s; simp only; omega, h.ver⟩
  · rw [he]
    have hx := state_range hL hs
    have hx0 : 0 ≤ x ∧ x ≤ 200 := by omega
    refine h.set (Nat.le_succ M) (by have := h.keys; omega) (by have := h.len s; simp [endAt]; omega) ?_
    intro v hv
    obtain ⟨i, hi⟩ := List.getElem?_of_mem hv
    unfold endAt at hi
    rw [List.getElem?_modify] at hi
    cases hvi : (N.f s)[i]? with
    | none => rw [hvi] at hi; simp at hi
    | some y =>
      rw [hvi] at hi
      have hy := h.ver s y (List.mem_of_getElem? hvi)
      by_cases e : k = i
      · simp [e] at hi; rw [← hi]; exact ⟨hy.1, Is64.of_range hx0, hy.2.2⟩
      · simp [e] at hi; rw [← hi]; exact hy

theorem find_modify {vs : List Ver} {k : Nat} {v : Ver} (hk : vs[k]? = some v) {g : Ver → Ver} {p : Ver → Bool} (hp : p (g v) = p v) (ht : (g v).t = v.t) :
    ((vs.modify k g).find? p).map (·.t) = (vs.find? p).map (·.t) := by
  induction vs generalizing k with
  | nil => simp at hk
  | cons a l ih =>
    cases k with
    | zero =>
      simp only [List.getElem?_cons_zero, Option.some.injEq] at hk
      subst hk
      rw [List.modify_zero_cons, List.find?_cons, List.find?_cons, hp]
      cases p a <;> simp [ht]
    | succ k =>
      rw [List.modify_succ_cons, List.find?_cons, List.find?_cons]
      cases p a
      · exact ih (by simpa using hk)
      · rfl

/-- The version that x may end is not ended by anybody whom me sees. -/
theorem Me.end_same {L : LogM} {me S x : Int} (h : Me L me S) (hx : x ≠ me) (hr : L.state x = 1) {N : NM} {s : ByteArray} (hm : (N.may L x s).1 = 0) {k : Nat} (ha : N.at_ L x s = k) (hk : k < (N.f s).length) :
    ((endAt (N.f s) k x).find? (Ver.seen L me)).map (·.t) = ((N.f s).find? (Ver.seen L me)).map (·.t) := by
  rcases at_range (L := L) (N := N) (x := x) (s := s) with h0 | ⟨k', v, h1, hv, hseen⟩
  · omega
  have e : k' = k := by omega
  subst e
  have hxs : L.sees me x = false := by
    rw [Bool.eq_false_iff]
    intro hs
    obtain ⟨_, _, h3 | h3⟩ := sees_iff.1 hs
    · exact hx h3.symm
    · omega
  have hmax : L.sees me v.xmax = false := by
    rw [Bool.eq_false_iff]
    intro hs
    have h2 := h.seen_state hs
    have hmem : v.xmax ∈ whos (N.f s) := by
      unfold whos
      rw [List.mem_flatMap]
      exact ⟨v, List.mem_of_getElem? hv, by simp⟩
    unfold Ver.seen at hseen
    rw [h2] at hseen
    rcases may_sees hm hmem with h3 | h3 | h3
    · rw [h3] at h2; simp at h2
    · rw [h3] at h2; simp at h2
    · rw [h3] at hseen; simp at hseen
  unfold endAt
  refine find_modify hv ?_ rfl
  rw [h.seen, h.seen]
  simp [hxs, hmax]

theorem all_set {L : LogM} {me : Int} {N : NM} (hw : N.Wf) {s : ByteArray} {vs : List Ver} (h : (vs.find? (Ver.seen L me)).map (·.t) = ((N.f s).find? (Ver.seen L me)).map (·.t)) : (N.set s vs).all L me = N.all L me := by
  have hsee : ∀ k, (N.set s vs).see L me k = N.see L me k := by
    intro k
    unfold NM.see NM.ver NM.set
    simp only
    by_cases e : k = s
    · subst e; rw [if_pos rfl]; exact h
    · rw [if_neg e]
  unfold NM.all
  have e1 : (N.set s vs).see L me = N.see L me := funext hsee
  rw [e1]
  simp only [NM.set]
  split
  · rfl
  · rename_i hn
    rw [NM.has_iff] at hn
    have e2 : N.see L me s = none := by
      unfold NM.see NM.ver
      rw [hw.nokey s hn]; rfl
    rw [List.filterMap_append]
    simp [e2]

theorem Me.drop {L : LogM} {me S x : Int} (h : Me L me S) (hx : x ≠ me) {N : NM} (hw : N.Wf) (s : ByteArray) : (N.drop L x s).1.all L me = N.all L me := by
  rcases N.drop_cases L x s with ⟨e, he, _⟩ | ⟨k, he, hr, hm, ha, hk⟩
  · rw [he]
  · rw [he]
    exact all_set hw (h.end_same hx hr hm ha hk)

theorem Me.put {L : LogM} {me S x : Int} (h : Me L me S) (hx : x ≠ me) {N : NM} (hw : N.Wf) (t : Tab) : (N.put L x t).1.all L me = N.all L me := by
  rcases N.put_cases L x t with ⟨e, he, _⟩ | ⟨vs, he, hok, hm, hvs⟩
  · rw [he]
  · rw [he]
    have hr : L.state x = 1 := by simpa using (putOk_parts hok).1
    have hxs : L.sees me x = false := by
      rw [Bool.eq_false_iff]
      intro hs
      obtain ⟨_, _, h3 | h3⟩ := sees_iff.1 hs
      · exact hx h3.symm
      · omega
    have hnew : Ver.seen L me ⟨x, 0, t⟩ = false := by rw [h.seen]; simp [hxs]
    refine all_set hw ?_
    rw [List.find?_append]
    have e1 : List.find? (Ver.seen L me) [⟨x, 0, t⟩] = none := by simp [hnew]
    rw [e1, Option.or_none]
    rcases hvs with ⟨_, _, rfl⟩ | ⟨k, ha, hk, rfl⟩
    · rfl
    · exact h.end_same hx hr hm ha hk

/-- What All answers: the same tables in the same order. -/
theorem NM.Wf.names {N : NM} (h : N.Wf) (L : LogM) (x : Int) : ((N.all L x).map (·.name)).Nodup := by
  have hs : ∀ s t, N.see L x s = some t → t.name = s := by
    intro s t ht
    unfold NM.see NM.ver at ht
    obtain ⟨v, hv, rfl⟩ := Option.map_eq_some_iff.1 ht
    exact h.named s v (List.mem_of_find?_eq_some hv)
  have hsub : ∀ l : List ByteArray, ((l.filterMap (N.see L x)).map (·.name)).Sublist l := by
    intro l
    induction l with
    | nil => simp
    | cons a l ih =>
      rw [List.filterMap_cons]
      cases ha : N.see L x a with
      | none => exact ih.cons a
      | some t =>
        rw [List.map_cons, hs a t ha]
        exact ih.cons_cons a
  exact h.nodup.sublist (hsub N.keys)

theorem sorted_same {A ts ts' : List Tab} (hA : (A.map (·.name)).Nodup) (h : ts.Perm A) (h' : ts'.Perm A) (hs : NameSorted ts) (hs' : NameSorted ts') : ts = ts' := by
  refine List.Perm.eq_of_pairwise (fun a b ha hb h1 h2 => ?_) hs hs' (h.trans h'.symm)
  exact inj_of_nodup_map hA (h.subset ha) (h'.subset hb) (lt_total h2 h1)

end Go.Proofs.Ytapkmgmcccgejaa
