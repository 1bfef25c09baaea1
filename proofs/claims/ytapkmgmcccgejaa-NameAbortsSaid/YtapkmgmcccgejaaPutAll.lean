/- Put and Drop, whole. -/
import Derived.Test.YtapkmgmcccgejaaPutN
import Derived.Test.YtapkmgmcccgejaaPutO
namespace Go.Proofs.Ytapkmgmcccgejaa
open Go.RowKit Go.Shelf

theorem NM.set_f (N : NM) (s : ByteArray) (a : List Ver) : (N.set s a).f s = a := by simp [NM.set]
theorem NM.has_set (N : NM) (s : ByteArray) (a : List Ver) : (N.set s a).has s = true := by
  rw [NM.has_iff]
  simp only [NM.set]
  split
  · rename_i h; exact NM.has_iff.1 h
  · simp
theorem NM.set_set (N : NM) (s : ByteArray) (a b : List Ver) : (N.set s a).set s b = N.set s b := by
  have h1 := N.has_set s a
  have e : ((N.set s a).set s b).keys = (N.set s b).keys := by
    show (if (N.set s a).has s = true then (N.set s a).keys else _) = _
    rw [if_pos h1]; rfl
  have f : ((N.set s a).set s b).f = (N.set s b).f := by
    funext k
    simp only [NM.set]
    split <;> rfl
  cases hx : (N.set s a).set s b
  cases hy : N.set s b
  rw [hx, hy] at e f
  simp only at e f
  rw [e, f]

/-- What putting leaves, if nothing is wrong. -/
theorem NM.put_cases (N : NM) (L : LogM) (x : Int) (t : Tab) :
    (∃ e, N.put L x t = (N, e) ∧ e ≠ 0) ∨ ∃ vs, N.put L x t = (N.set t.name (vs ++ [⟨x, 0, t⟩]), 0) ∧ putOk L x t = true ∧ (N.may L x t.name).1 = 0 ∧
      ((N.at_ L x t.name < 0 ∧ N.others L x t.name < 6 ∧ vs = N.f t.name) ∨ ∃ k : Nat, N.at_ L x t.name = k ∧ k < (N.f t.name).length ∧ vs = endAt (N.f t.name) k x) := by
  unfold NM.put
  cases h0 : putOk L x t with
  | false => left; exact ⟨1, by simp, by decide⟩
  | true =>
    rw [if_neg (by decide)]
    by_cases h1 : (N.may L x t.name).1 ≠ 0
    · left; exact ⟨_, by rw [if_pos h1], h1⟩
    · rw [if_neg h1]
      rcases at_range (L := L) (N := N) (x := x) (s := t.name) with ha | ⟨k, v, ha, hv, _⟩
      · rw [ha, if_pos (by decide)]
        by_cases h2 : 6 ≤ N.others L x t.name
        · left; exact ⟨3, by rw [if_pos h2], by decide⟩
        · right
          exact ⟨N.f t.name, by rw [if_neg h2], rfl, by simpa using h1, .inl ⟨by omega, by omega, rfl⟩⟩
      · right
        rw [ha, if_neg (by omega)]
        exact ⟨_, rfl, rfl, by simpa using h1, .inr ⟨k, rfl, (List.getElem?_eq_some_iff.1 hv).1, by simp⟩⟩

theorem NM.Ok.set {N : NM} {M : Nat} (h : N.Ok M) {M' : Nat} (hM : M ≤ M') {s : ByteArray} {vs : List Ver} (hk : N.keys.length + 1 ≤ M') (hl : vs.length ≤ M') (hv : ∀ v ∈ vs, Is64 v.xmin ∧ Is64 v.xmax ∧ v.t.cols.length ≤ 6) : (N.set s vs).Ok M' := by
  refine ⟨?_, ?_, ?_⟩
  · simp only [NM.set]
    split
    · have := h.keys; omega
    · simp; omega
  · intro s'
    simp only [NM.set]
    split
    · exact hl
    · have := h.len s'; omega
  · intro s' v hv'
    simp only [NM.set] at hv'
    split at hv'
    · exact hv v hv'
    · exact h.ver s' v hv'

theorem state_range {L : LogM} (hL : L.Ok) {x : Int} (h : L.state x = 1) : 1 ≤ x ∧ x ≤ 200 := by
  have := LogM.state_isTx (L := L) (x := x) (by rw [h]; decide)
  have hn := hL.n
  simp only [LogM.isTx, decide_eq_true_eq] at this
  omega

theorem Is64.of_range {x : Int} (h : 0 ≤ x ∧ x ≤ 200) : Is64 x := by unfold Is64; omega

theorem NM.Ok.put {N : NM} {M : Nat} (h : N.Ok M) {L : LogM} (hL : L.Ok) (x : Int) (t : Tab) : (N.put L x t).1.Ok (M + 1) := by
  rcases N.put_cases L x t with ⟨e, he, _⟩ | ⟨vs, he, hok, _, hvs⟩
  · rw [he]
    exact ⟨by have := h.keys; simp only; omega, fun s => by have := h.len s; simp only; omega, h.ver⟩
  · rw [he]
    obtain ⟨h1, _, h3, _, _⟩ := putOk_parts hok
    have hx := state_range hL (by simpa using h1)
    have hc := goodCols_len h3
    have hx0 : 0 ≤ x ∧ x ≤ 200 := by omega
    refine h.set (Nat.le_succ M) (by have := h.keys; omega) ?_ ?_
    · rcases hvs with ⟨_, _, rfl⟩ | ⟨k, _, _, rfl⟩
      · have := h.len t.name; simp; omega
      · have := h.len t.name; simp [endAt]; omega
    · intro v hv
      rcases List.mem_append.1 hv with hv | hv
      · rcases hvs with ⟨_, _, rfl⟩ | ⟨k, _, _, rfl⟩
        · exact h.ver _ v hv
        · obtain ⟨i, hi⟩ := List.getElem?_of_mem hv
          unfold endAt at hi
          rw [List.getElem?_modify] at hi
          cases hvi : (N.f t.name)[i]? with
          | none => rw [hvi] at hi; simp at hi
          | some y =>
            rw [hvi] at hi
            have hy := h.ver t.name y (List.mem_of_getElem? hvi)
            by_cases e : k = i
            · simp [e] at hi; rw [← hi]; exact ⟨hy.1, Is64.of_range hx0, hy.2.2⟩
            · simp [e] at hi; rw [← hi]; exact hy
      · simp at hv; subst hv
        exact ⟨Is64.of_range hx0, Is64.of_range (x := 0) (by omega), hc⟩

section
variable {w : World} {lb nb B blk : Nat} {L : LogM} {N : NM} {M : Nat}

theorem put_any (hl : LogAt w lb L) (hn : NamesIn w nb B N) (hok : N.Ok M) (hM : M ≤ 100000) (x : Int) (t : Tab) {cv : Value} (hcv : ColsAt w cv t.cols blk) (hnm : t.name.size ≤ maxLen) (hblk : ¬ (B ≤ blk ∧ KindAt w blk 2)) :
    Calls Try.prog 10 #[.pointer (some ⟨nb, 0, none⟩), .pointer (some ⟨lb, 0, none⟩), .int .i64 x, t.agg cv] w
      fun e w' => e = .returned (.int .i64 (N.put L x t).2) ∧ NamesIn w' nb B (N.put L x t).1 ∧ LogAt w' lb L ∧ Tur (PutS w B) w w' := by
  have t0 : ∀ w', Tur None' w w' → NamesIn w' nb B N ∧ LogAt w' lb L ∧ Tur (PutS w B) w w' := fun w' t => ⟨hn.tur0 t, hl.tur t (fun h => h), t.mono (fun _ _ e => e.elim)⟩
  cases h0 : putOk L x t with
  | false =>
    have e : N.put L x t = (N, 1) := by unfold NM.put; rw [if_pos h0]
    rw [e]
    exact (put_arg (nb := nb) hl x t hcv hnm h0).mono (fun e w' ⟨he, ht⟩ => ⟨he, t0 w' ht⟩)
  | true =>
    by_cases h1 : (N.may L x t.name).1 ≠ 0
    · have e : N.put L x t = (N, (N.may L x t.name).1) := by unfold NM.put; rw [if_neg (by rw [h0]; decide), if_pos h1]
      rw [e]
      exact (put_may hl hn hok hM x t hcv hnm h0 h1).mono (fun e w' ⟨he, ht⟩ => ⟨he, t0 w' ht⟩)
    · have h1' : (N.may L x t.name).1 = 0 := by simpa using h1
      rcases at_range (L := L) (N := N) (x := x) (s := t.name) with ha | ⟨k, v, ha, hv, _⟩
      · by_cases h2 : 6 ≤ N.others L x t.name
        · have e : N.put L x t = (N, 3) := by unfold NM.put; rw [if_neg (by rw [h0]; decide), if_neg h1, ha, if_pos (by decide), if_pos h2]
          rw [e]
          exact (put_many hl hn hok hM x t hcv hnm h0 h1' ha h2).mono (fun e w' ⟨he, ht⟩ => ⟨he, t0 w' ht⟩)
        · have e : N.put L x t = (N.set t.name (N.f t.name ++ [⟨x, 0, t⟩]), 0) := by unfold NM.put; rw [if_neg (by rw [h0]; decide), if_neg h1, ha, if_pos (by decide), if_neg h2]
          rw [e]
          exact (put_new hl hn hok hM x t hcv hnm h0 h1' ha (by omega)).mono (fun e w' ⟨he, hN, ht⟩ => ⟨he, hN, hl.putS ht, ht⟩)
      · have hk : k < (N.f t.name).length := (List.getElem?_eq_some_iff.1 hv).1
        have e : N.put L x t = (N.set t.name (endAt (N.f t.name) k x ++ [⟨x, 0, t⟩]), 0) := by unfold NM.put; rw [if_neg (by rw [h0]; decide), if_neg h1, ha, if_neg (by omega)]; simp
        rw [e]
        refine (put_over hl hn hok hM x t hcv hnm h0 h1' ha hk hblk).mono (fun e w' ⟨he, hN, ht⟩ => ⟨he, ?_, hl.putS ht, ht⟩)
        rw [NM.set_f, NM.set_set] at hN
        exact hN

def NM.drop (N : NM) (L : LogM) (x : Int) (s : ByteArray) : NM × Int :=
  if L.state x ≠ 1 then (N, 1)
  else if (N.may L x s).1 ≠ 0 then (N, (N.may L x s).1)
  else if N.at_ L x s < 0 then (N, 60)
  else (N.set s (endAt (N.f s) (N.at_ L x s).toNat x), 0)

set_option maxRecDepth 100000 in
set_option maxHeartbeats 2000000 in
theorem drop_any (hl : LogAt w lb L) (hn : NamesIn w nb B N) (hok : N.Ok M) (hM : M ≤ 100000) (x : Int) (s : ByteArray) :
    Calls Try.prog 19 #[.pointer (some ⟨nb, 0, none⟩), .pointer (some ⟨lb, 0, none⟩), .int .i64 x, .string s] w
      fun e w' => e = .returned (.int .i64 (N.drop L x s).2) ∧ NamesIn w' nb B (N.drop L x s).1 ∧ LogAt w' lb L ∧ Tur (PutS w B) w w' := by
  have t0 : ∀ w', Tur None' w w' → NamesIn w' nb B N ∧ LogAt w' lb L ∧ Tur (PutS w B) w w' := fun w' t => ⟨hn.tur0 t, hl.tur t (fun h => h), t.mono (fun _ _ e => e.elim)⟩
  have T0 := Lib.hid t0
  have H64 := Lib.hid (show ∀ v ∈ N.f s, Is64 v.xmin ∧ Is64 v.xmax from fun v hv => ⟨(hok.ver s v hv).1, (hok.ver s v hv).2.1⟩)
  have H5 := Lib.hid (show (N.f s).length ≤ 100000 from by have := hok.len s; omega)
  have ht := Tur.refl None' w
  clear t0 hok
  by_cases h0 : L.state x ≠ 1
  · have e : N.drop L x s = (N, 1) := by unfold NM.drop; rw [if_pos h0]
    rw [e]
    have h1 : (L.state x != 1) = true := by simp [h0]
    have H1 := Lib.hid h1
    clear e h0 h1
    go_enter Try.func19, Try.ntmps19
    go_wp2_with (go_at_call 16; refine (state_any hl _).mono ?_; rintro e w1 ⟨rfl, t1⟩; have h1' := H1.out)
    go_ret
    exact ⟨rfl, T0.out _ ‹_›⟩
  · have h1 : (L.state x != 1) = false := by simpa using h0
    have H1 := Lib.hid h1
    by_cases h2 : (N.may L x s).1 ≠ 0
    · have e : N.drop L x s = (N, (N.may L x s).1) := by unfold NM.drop; rw [if_neg h0, if_pos h2]
      rw [e]
      have hmb : ((N.may L x s).1 != 0) = true := by simp [h2]
      have HM := Lib.hid (show N.may L x s = ((N.may L x s).1, (N.may L x s).2) from rfl)
      clear e h0 h1 h2
      generalize (N.may L x s).1 = e1 at *
      generalize (N.may L x s).2 = e2 at *
      go_enter Try.func19, Try.ntmps19
      go_wp2_with (first | (go_at_call 16; refine (state_any hl _).mono ?_; rintro e w1 ⟨rfl, t1⟩; have h1' := H1.out; have t1' := ht.none_trans t1; clear ht t1; have ht := t1'; clear t1') | (go_at_call 21; refine (may_any (T0.out _ ht).2.1 (T0.out _ ht).1 x s H64.out H5.out).mono ?_; rintro e w1 ⟨rfl, t1⟩; rw [HM.out]; have t1' := ht.none_trans t1; clear ht t1; have ht := t1'; clear t1'))
      go_ret
      exact ⟨rfl, T0.out _ ht⟩
    · have h2' : (N.may L x s).1 = 0 := by simpa using h2
      have HM := Lib.hid (show N.may L x s = (0, (N.may L x s).2) from by rw [← h2'])
      rcases at_range (L := L) (N := N) (x := x) (s := s) with ha | ⟨k, v, ha, hv, _⟩
      · have e : N.drop L x s = (N, 60) := by unfold NM.drop; rw [if_neg h0, if_neg h2, ha, if_pos (by decide)]
        rw [e]
        have HA := Lib.hid ha
        clear e h0 h1 h2 h2' ha
        generalize (N.may L x s).2 = e2 at *
        go_enter Try.func19, Try.ntmps19
        go_wp2_with (first | (go_at_call 16; refine (state_any hl _).mono ?_; rintro e w1 ⟨rfl, t1⟩; have h1' := H1.out; have t1' := ht.none_trans t1; clear ht t1; have ht := t1'; clear t1') | (go_at_call 21; refine (may_any (T0.out _ ht).2.1 (T0.out _ ht).1 x s H64.out H5.out).mono ?_; rintro e w1 ⟨rfl, t1⟩; rw [HM.out]; have t1' := ht.none_trans t1; clear ht t1; have ht := t1'; clear t1') | (go_at_call 25; refine (at_any (T0.out _ ht).2.1 (T0.out _ ht).1 x s).mono ?_; rintro e w1 ⟨rfl, t1⟩; rw [HA.out]; have t1' := ht.none_trans t1; clear ht t1; have ht := t1'; clear t1'))
        go_ret
        exact ⟨rfl, T0.out _ ht⟩
      · have hk : k < (N.f s).length := (List.getElem?_eq_some_iff.1 hv).1
        have e : N.drop L x s = (N.set s (endAt (N.f s) k x), 0) := by unfold NM.drop; rw [if_neg h0, if_neg h2, ha, if_neg (by omega)]; simp
        rw [e]
        have HA := Lib.hid ha
        obtain ⟨mb, ck, m, hnA⟩ := hn
        have hA : ∀ w2, Tur None' w w2 → NamesAt w2 nb B N mb ck m := fun w2 t => hnA.tur t (fun _ _ _ _ _ h => h)
        have HN := Lib.hid hA
        have Hl := Lib.hid hl
        clear e h0 h1 h2 h2' ha hA
        generalize (N.may L x s).2 = e2 at *
        go_enter Try.func19, Try.ntmps19
        go_wp2_with (first | (go_at_call 16; refine (state_any hl _).mono ?_; rintro e w1 ⟨rfl, t1⟩; have h1' := H1.out; have t1' := ht.none_trans t1; clear ht t1; have ht := t1'; clear t1') | (go_at_call 21; refine (may_any (T0.out _ ht).2.1 (T0.out _ ht).1 x s H64.out H5.out).mono ?_; rintro e w1 ⟨rfl, t1⟩; rw [HM.out]; have t1' := ht.none_trans t1; clear ht t1; have ht := t1'; clear t1') | (go_at_call 25; fail))
        refine (at_any (T0.out _ ht).2.1 (T0.out _ ht).1 x s).mono ?_
        rintro e w1 ⟨rfl, t1⟩
        rw [HA.out]
        have ht := ht.none_trans t1
        have hnamO := HN.out _ ht
        obtain ⟨a0, cap0, cvs, hv0, hvs, hlk⟩ := hnamO.slot s
        obtain ⟨g, rfl⟩ : ∃ g, a0 = some ⟨g, 0, none⟩ := by
          rcases ownsRow_shape hvs.own with ⟨_, h0⟩ | ⟨g, cap, e, _⟩
          · omega
          · injection e with e1 _ _; exact ⟨g, e1⟩
        have hls : look s m = some (.slice (some ⟨g, 0, none⟩) (N.f s).length cap0) := by
          cases hk2 : look s m with
          | none => rw [hk2] at hv0; cases hv0
          | some v => rw [hk2] at hv0; exact congrArg some hv0
        have nk0 := hlk _ hnamO
        have nc := hnamO.cell
        obtain ⟨u1, hu1⟩ : ∃ u, w1.cell? ⟨g, k * 5 + 1, none⟩ = some u := by
          obtain ⟨cv2, _, hva, _⟩ := hvs.ver hv rfl
          exact ⟨_, hva.c1⟩
        have hfz : w1.frozen? ⟨g, k * 5 + 1, none⟩ = false := by
          rcases ownsRow_shape hvs.own with ⟨e, _⟩ | ⟨g2, cap, e, _, _, _, ho⟩
          · cases e
          · injection e with e1 _ _
            injection e1 with e1
            injection e1 with e1
            rw [e1]; exact ho.frozen _
        have HO := Lib.hid (And.intro (hnamO.store hls hk x) hls)
        have hki2 : (k : Int) < ((N.f s).length : Int) := by omega
        clear hnamO hls hvs hlk hv0 hv
        have Ht := Lib.hid ht
        clear ht t1
        go_wp2
        go_ret
        have hkd := hnA.slot_kind (s := s) (g := g) (by rw [HO.out.2]; rfl)
        have htt : Tur (PutS w B) w (w1.setCell ⟨g, k * 5 + 1, none⟩ (.int .i64 x)) := (Ht.out.mono (S' := PutS w B) (fun _ _ e => e.elim)).setCell (p := ⟨g, k * 5 + 1, none⟩) (fun _ => ⟨hkd.1, .inr hkd.2⟩) _
        exact ⟨rfl, ⟨mb, ck, m, HO.out.1⟩, hl.putS htt, htt⟩

end

end Go.Proofs.Ytapkmgmcccgejaa
