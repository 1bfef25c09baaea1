/- May a transaction do something with a name? -/
import Derived.Test.YtapkmgmcccgejaaUnseen
namespace Go.Proofs.Ytapkmgmcccgejaa
open Go.RowKit Go.Shelf

/-- A slice of whole numbers of our own. -/
def IntsAt (w : World) (B : Nat) (v : Value) (l : List Int) : Prop := w.ownsRow B 3 1 v l.length (l.map (Value.int .i64))

theorem IntsAt.tur0 {w w' : World} {B : Nat} {v : Value} {l : List Int} (h : IntsAt w B v l) (t : Tur None' w w') : IntsAt w' B v l := ownsRow_tur h t (fun _ _ h => h)

theorem IntsAt.form {w : World} {B : Nat} {v : Value} {l : List Int} (h : IntsAt w B v l) :
    ∃ a cap, v = .slice a l.length cap ∧ l.length ≤ maxLen ∧ ∀ k z, l[k]? = some z → ∃ g, a = some ⟨g, 0, none⟩ ∧ w.cell? ⟨g, k, none⟩ = some (.int .i64 z) := by
  rcases ownsRow_shape h with ⟨rfl, h0⟩ | ⟨g, cap, rfl, hb, hn, hc, ho⟩
  · refine ⟨none, 0, by rw [h0], by omega, fun k z hk => ?_⟩
    have e : l = [] := List.eq_nil_of_length_eq_zero h0
    rw [e] at hk; simp at hk
  · refine ⟨_, cap, rfl, by omega, fun k z hk => ⟨g, rfl, ownsRow_cell h rfl (by simp [hk])⟩⟩

theorem mayFn_any {w : World} {lb Bl : Nat} {L : LogM} (hl : LogAt w lb L) (hB : w.cell? ⟨Bl, 0, none⟩ = some (.pointer (some ⟨lb, 0, none⟩))) (x : Int) :
    Calls Try.prog 39 #[.int .i64 x, .pointer (some ⟨Bl, 0, none⟩)] w fun e w' => e = .returned (.bool (L.state x == 1)) ∧ Tur None' w w' := by
  go_enter Try.func39, Try.ntmps39
  go_wp2_with (refine (state_any hl _).mono ?_; rintro e w1 ⟨rfl, t1⟩)
  go_ret
  exact ⟨rfl, by assumption⟩

set_option maxRecDepth 100000 in
set_option maxHeartbeats 1000000 in
theorem indexFuncInt {w : World} {v : Value} {l : List Int} {B : Nat} (h : IntsAt w B v l) {lb Bl : Nat} {L : LogM} (hl : LogAt w lb L) (hB : w.cell? ⟨Bl, 0, none⟩ = some (.pointer (some ⟨lb, 0, none⟩))) :
    Calls Try.prog 38 #[v, .func (.func 39) #[] #[.pointer (some ⟨Bl, 0, none⟩)]] w
      fun e w' => e = .returned (.int .i64 (idxOf (fun x => L.state x == 1) l)) ∧ Tur None' w w' := by
  have hl' : ∀ w2, Tur None' w w2 → LogAt w2 lb L := fun w2 t => hl.tur t (fun h => h)
  have Hl := Lib.hid hl'
  have HB := Lib.hid hB
  obtain ⟨a, cap, rfl, hlen, hc⟩ := h.form
  unfold maxLen at hlen
  have Hc := Lib.hid hc
  clear hc hB hl hl' h
  go_enter Try.func38, Try.ntmps38
  go_wp2
  go_loopw [5, 8] (fun _ i wr => ∃ k : Nat, k ≤ l.length ∧ i = .int .i64 k ∧ (∀ j y, j < k → l[j]? = some y → (L.state y == 1) = false) ∧ Tur None' w wr) (fun _ i _ => l.length - (intOf i).toNat)
  case atStart => exact ⟨0, Nat.zero_le _, rfl, fun j y hj => absurd hj (by omega), Tur.refl _ _⟩
  case round =>
    obtain ⟨k, hk, rfl, hno, ht⟩ := hrel
    have Hno := Lib.hid hno
    clear hno
    by_cases hlt : k < l.length
    · obtain ⟨c, hcc⟩ : ∃ c, l[k]? = some c := ⟨l[k], List.getElem?_eq_getElem hlt⟩
      obtain ⟨g, rfl, gc⟩ := Hc.out k c hcc
      have gc := ht.cell' gc (fun h => h)
      have Hb := Lib.hid (ht.cell' HB.out (fun h => h))
      have Hcc := Lib.hid hcc
      clear hcc
      cases hp : (L.state c == 1)
      all_goals
        have Hp := Lib.hid hp
        clear hp
        go_wp2_with (refine (mayFn_any (Hl.out _ ht) Hb.out c).mono ?_; rintro e w2 ⟨rfl, ht2⟩; rw [Hp.out])
      · go_roundw
        case rel =>
          refine ⟨k + 1, by omega, by go_num, ?_, ht.none_trans ‹_›⟩
          intro j y hj hy
          by_cases e : j = k
          · subst e; rw [Hcc.out] at hy; cases hy; exact Hp.out
          · exact Hno.out j y (by omega) hy
        case measure => simp [intOf]; omega
      · go_ret
        exact ⟨ret_int (idxOf_at Hcc.out Hp.out Hno.out).symm, ht.none_trans ‹_›⟩
    · go_wp2
      go_ret
      refine ⟨?_, ht⟩
      rw [idxOf_none]
      · rfl
      · intro x hx
        obtain ⟨j, hj⟩ := List.getElem?_of_mem hx
        have hjl : j < l.length := (List.getElem?_eq_some_iff.1 hj).1
        exact Hno.out j x (by omega) hj

/-- What 'May' answers: an error and for whom one waits. -/
def NM.may (N : NM) (L : LogM) (x : Int) (s : ByteArray) : Int × Int :=
  match (unseenL L x (N.f s)).find? (fun y => L.state y == 1) with
  | some y => (75, y)
  | none => match (unseenL L x (N.f s)).head? with
    | some y => (71, y)
    | none => (0, 0)

theorem find_of_idx {α : Type} {p : α → Bool} {l : List α} {k : Nat} (h : idxOf p l = (k : Int)) : ∃ y, l[k]? = some y ∧ l.find? p = some y := by
  unfold idxOf at h
  cases hf : l.findIdx? p with
  | none => rw [hf] at h; exact absurd h (by simp)
  | some j =>
    rw [hf] at h
    have h' : (j : Int) = k := h
    have e : j = k := by omega
    subst e
    obtain ⟨hk, hp, hno⟩ := List.findIdx?_eq_some_iff_getElem.1 hf
    exact ⟨l[j], List.getElem?_eq_getElem hk, by rw [List.find?_eq_some_iff_getElem]; exact ⟨hp, j, hk, rfl, fun i hi => by have := hno i hi; simpa using this⟩⟩

theorem idxOf_cases {α : Type} (p : α → Bool) (l : List α) : (idxOf p l = -1 ∧ l.find? p = none) ∨ ∃ k : Nat, idxOf p l = k ∧ k < l.length := by
  unfold idxOf
  cases hf : l.findIdx? p with
  | none => exact .inl ⟨rfl, by rw [List.find?_eq_none]; intro y hy; have := List.findIdx?_eq_none_iff.1 hf y hy; simp [this]⟩
  | some j => exact .inr ⟨j, rfl, (List.findIdx?_eq_some_iff_getElem.1 hf).1⟩

set_option maxRecDepth 100000 in
set_option maxHeartbeats 2000000 in
theorem may_any {w : World} {lb nb B : Nat} {L : LogM} {N : NM} (hl : LogAt w lb L) (hn : NamesIn w nb B N) (x : Int) (s : ByteArray) (h64 : ∀ v ∈ N.f s, Is64 v.xmin ∧ Is64 v.xmax) (hlen : (N.f s).length ≤ 100000) :
    Calls Try.prog 21 #[.pointer (some ⟨nb, 0, none⟩), .pointer (some ⟨lb, 0, none⟩), .int .i64 x, .string s] w
      fun e w' => e = .returned (.tuple #[.int .i64 (N.may L x s).1, .int .i64 (N.may L x s).2]) ∧ Tur None' w w' := by
  have hl' : ∀ w2, Tur None' w w2 → LogAt w2 lb L := fun w2 t => hl.tur t (fun h => h)
  have Hl := Lib.hid hl'
  have hN : ∀ w2, Tur None' w w2 → NamesIn w2 nb B N := fun w2 t => hn.tur0 t
  have HN := Lib.hid hN
  have H64 := Lib.hid h64
  have hr0 := Run.start w (Obj.cells #[.pointer (some ⟨lb, 0, none⟩)] 22)
  clear hl hl' hN hn h64
  have key : ∀ (w1 : World) (v' : Value), Run w (Obj.cells #[.pointer (some ⟨lb, 0, none⟩)] 22) w1 → IntsAt w1 0 v' (unseenL L x (N.f s)) → IntsAt w1 0 v' (unseenL L x (N.f s)) ∧ w1.cell? ⟨w.heap.size, 0, none⟩ = some (.pointer (some ⟨lb, 0, none⟩)) := fun w1 v' r h => ⟨h, r.cell 0⟩
  have Key := Lib.hid key
  clear key
  have eM : N.may L x s = match (unseenL L x (N.f s)).find? (fun y => L.state y == 1) with
    | some y => (75, y)
    | none => match (unseenL L x (N.f s)).head? with
      | some y => (71, y)
      | none => (0, 0) := rfl
  have HM := Lib.hid eM
  clear eM
  have hU : ∀ w2, Tur None' w w2 → Calls Try.prog 22 #[.pointer (some ⟨nb, 0, none⟩), .pointer (some ⟨lb, 0, none⟩), .int .i64 x, .string s] w2
      fun e w' => ∃ v', e = .returned v' ∧ IntsAt w' 0 v' (unseenL L x (N.f s)) ∧ Tur None' w2 w' := fun w2 t =>
    (unseen_any (Hl.out _ t) (HN.out _ t) x s H64.out hlen).mono (fun e w' ⟨v', he, ho, ht⟩ => ⟨v', he, ownsRow_mono ho (Nat.zero_le _), ht⟩)
  have HU := Lib.hid hU
  clear hU
  generalize unseenL L x (N.f s) = l at *
  have eq0 := Lib.hid (idxOf_cases (fun y => L.state y == 1) l)
  rcases eq0.out with ⟨hi, hf⟩ | ⟨k, hi, hk⟩
  · have Hi := Lib.hid hi
    have Hf := Lib.hid hf
    clear hi hf
    cases l with
    | nil =>
      rw [HM.out]
      simp only [List.find?_nil, List.head?_nil]
      go_enter Try.func21, Try.ntmps21
      go_wp2_with fail
      refine (HU.out _ hr0.tur).mono ?_
      rintro e w1 ⟨v', rfl, hv, t1⟩
      have hr := hr0.step t1
      obtain ⟨a, cap, rfl, hln, hcl⟩ := hv.form
      have Hv := Lib.hid hv
      clear hv hcl
      go_wp2_with fail
      refine (indexFuncInt Hv.out (Hl.out _ hr.tur) (hr.cell 0)).mono ?_
      rintro e w2 ⟨rfl, t2⟩
      rw [Hi.out]
      go_wp2
      go_ret2
      exact ⟨rfl, hr.tur.none_trans t2⟩
    | cons z l' =>
      have Hh := Lib.hid (show (z :: l').head? = some z from rfl)
      rw [HM.out, Hf.out]
      simp only [List.head?_cons]
      have hlz : (z :: l')[0]? = some z := rfl
      have Hz := Lib.hid hlz
      have hpos : 0 < (z :: l').length := by simp
      clear hlz HM
      generalize z :: l' = l at *
      go_enter Try.func21, Try.ntmps21
      go_wp2_with fail
      refine (HU.out _ hr0.tur).mono ?_
      rintro e w1 ⟨v', rfl, hv, t1⟩
      have hr := hr0.step t1
      obtain ⟨a, cap, rfl, hln, hcl⟩ := hv.form
      obtain ⟨g, rfl, gc⟩ := hcl 0 z Hz.out
      have Hv := Lib.hid hv
      clear hv hcl
      unfold maxLen at hln
      go_wp2_with fail
      refine (indexFuncInt Hv.out (Hl.out _ hr.tur) (hr.cell 0)).mono ?_
      rintro e w2 ⟨rfl, t2⟩
      rw [Hi.out]
      have gc := t2.cell' gc (fun h => h)
      go_wp2
      go_quiet (fail)
      go_wp2
      go_ret2
      exact ⟨rfl, by first | exact hr.tur.none_trans t2 | exact (hr.tur.none_trans t2).drewN _⟩
  · obtain ⟨y, hy, hf⟩ := find_of_idx hi
    rw [HM.out, hf]
    simp only
    have Hi := Lib.hid hi
    have Hy := Lib.hid hy
    clear hi hy hf HM
    go_enter Try.func21, Try.ntmps21
    go_wp2_with fail
    refine (HU.out _ hr0.tur).mono ?_
    rintro e w1 ⟨v', rfl, hv, t1⟩
    have hr := hr0.step t1
    obtain ⟨a, cap, rfl, hln, hcl⟩ := hv.form
    obtain ⟨g, rfl, gc⟩ := hcl k y Hy.out
    have Hv := Lib.hid hv
    clear hv hcl
    unfold maxLen at hln
    go_wp2_with fail
    refine (indexFuncInt Hv.out (Hl.out _ hr.tur) (hr.cell 0)).mono ?_
    rintro e w2 ⟨rfl, t2⟩
    rw [Hi.out]
    have gc := t2.cell' gc (fun h => h)
    go_wp2
    go_quiet (fail)
    go_wp2
    go_ret2
    exact ⟨rfl, by first | exact hr.tur.none_trans t2 | exact (hr.tur.none_trans t2).drewN _⟩

end Go.Proofs.Ytapkmgmcccgejaa
