/- Where the version stands that a transaction sees; See. -/
import Derived.Test.YtapkmgmcccgejaaSees
namespace Go.Proofs.Ytapkmgmcccgejaa
open Go.RowKit Go.Shelf

theorem zeroVers (w : World) : (zeroValue 67).run Try.prog w = .ok (.slice none 0 0) w := by kernel_rfl

/-- What a name's look-up comes to. -/
theorem NamesAt.lookup {w : World} {b B : Nat} {N : NM} {mb ck : Nat} {m : List (Ent ByteArray)} (h : NamesAt w b B N mb ck m) (s : ByteArray) :
    ∃ a cap, (Instr.lookup 59 (.map (some mb)) (.string s) false).run Try.prog w = .ok (.slice a (N.f s).length cap) w ∧
      (N.f s).length ≤ maxLen ∧
      ((N.f s = [] ∧ look s m = none) ∨ ∃ g cvs, a = some ⟨g, 0, none⟩ ∧ look s m = some (.slice (some ⟨g, 0, none⟩) (N.f s).length cap) ∧ VersAt w B (.slice (some ⟨g, 0, none⟩) (N.f s).length cap) (N.f s) cvs) := by
  have hl := run_lookup_at (klaw_string Try.underlying9) Try.underlying59 (zeroVers w) h.map s
  cases hk : look s m with
  | none =>
    have e := h.nokey s hk
    rw [hk] at hl
    exact ⟨none, 0, by rw [hl, e]; rfl, by rw [e]; simp, .inl ⟨e, rfl⟩⟩
  | some v =>
    obtain ⟨h1, cvs, h2⟩ := h.vers s v hk
    rw [hk] at hl
    rcases ownsRow_shape h2.own with ⟨rfl, h0⟩ | ⟨g, cap, rfl, hb, hn, hc, ho⟩
    · exact absurd (List.eq_nil_of_length_eq_zero h0) h1
    · exact ⟨some ⟨g, 0, none⟩, cap, hl, by omega, .inr ⟨g, cvs, rfl, rfl, h2⟩⟩

theorem case_some {w : World} {B : Nat} {N : NM} {m : List (Ent ByteArray)} {s : ByteArray} {a : Option Addr} {cap k : Nat} {v : Ver}
    (h : (N.f s = [] ∧ look s m = none) ∨ ∃ g cvs, a = some ⟨g, 0, none⟩ ∧ look s m = some (.slice (some ⟨g, 0, none⟩) (N.f s).length cap) ∧ VersAt w B (.slice (some ⟨g, 0, none⟩) (N.f s).length cap) (N.f s) cvs)
    (hv : (N.f s)[k]? = some v) : ∃ g a' n' c' blk, a = some ⟨g, 0, none⟩ ∧ VerAt w g (k * 5) v (.slice a' n' c') ∧ ColsAt w (.slice a' n' c') v.t.cols blk ∧ B ≤ g := by
  rcases h with ⟨e, _⟩ | ⟨g, cvs, rfl, _, h2⟩
  · rw [e] at hv; simp at hv
  · obtain ⟨cv, _, hva, hoc⟩ := h2.ver hv rfl
    obtain ⟨a', n', c', rfl⟩ := hoc.slice
    obtain ⟨blk, hca, _⟩ := hoc.at
    exact ⟨g, a', n', c', blk, rfl, hva, hca, ownsRow_ge h2.own rfl⟩

theorem NamesAt.cell {w : World} {b B : Nat} {N : NM} {mb ck : Nat} {m : List (Ent ByteArray)} (h : NamesAt w b B N mb ck m) : w.cell? ⟨b, 0, none⟩ = some (.map (some mb)) := by
  simp [World.cell?, h.box]

set_option maxRecDepth 100000 in
set_option maxHeartbeats 2000000 in
theorem at_any {w : World} {lb nb B : Nat} {L : LogM} {N : NM} (hl : LogAt w lb L) (hn : NamesIn w nb B N) (x : Int) (s : ByteArray) :
    Calls Try.prog 25 #[.pointer (some ⟨nb, 0, none⟩), .pointer (some ⟨lb, 0, none⟩), .int .i64 x, .string s] w
      fun e w' => e = .returned (.int .i64 (N.at_ L x s)) ∧ Tur None' w w' := by
  obtain ⟨mb, ck, m, hn⟩ := hn
  have hc := hn.cell
  obtain ⟨a, cap, hlk, hlen, hcase⟩ := hn.lookup s
  unfold maxLen at hlen
  have hl' : ∀ w2, Tur None' w w2 → LogAt w2 lb L := fun w2 t => hl.tur t (fun h => h)
  have Hl := Lib.hid hl'
  clear hl'
  have hv : ∀ (wr : World) (k : Nat) (v : Ver), Tur None' w wr → (N.f s)[k]? = some v → ∃ g cv a' n' c', a = some ⟨g, 0, none⟩ ∧ VerAt wr g (k * 5) v cv ∧ cv = .slice a' n' c' := by
    intro wr k v t hk
    rcases hcase with ⟨e, _⟩ | ⟨g, cvs, rfl, _, h2⟩
    · rw [e] at hk; simp at hk
    · obtain ⟨cv, _, hva, hoc⟩ := h2.ver hk rfl
      obtain ⟨a', n', c', e⟩ := hoc.slice
      exact ⟨g, cv, a', n', c', rfl, hva.tur t (fun h => h), e⟩
  have Hv := Lib.hid hv
  clear hv hcase hn hl
  have e0 : N.at_ L x s = idxOf (Ver.seen L x) (N.f s) := rfl
  rw [e0]
  clear e0
  generalize N.f s = vers at *
  go_enter Try.func25, Try.ntmps25
  go_wp2
  go_step3
  go_wp2
  go_step3
  go_wp2
  go_loopw [9, 10, 20] (fun _ _ i wr => ∃ k : Nat, k ≤ vers.length ∧ i = .int .i64 k ∧ (∀ j y, j < k → vers[j]? = some y → y.seen L x = false) ∧ Tur None' w wr) (fun _ _ i _ => vers.length - (intOf i).toNat)
  case atStart => exact ⟨0, Nat.zero_le _, rfl, fun j y hj => absurd hj (by omega), Tur.refl _ _⟩
  case round =>
    obtain ⟨k, hk, rfl, hno, ht⟩ := hrel
    have Hno := Lib.hid hno
    clear hno
    by_cases hlt : k < vers.length
    · obtain ⟨v, hvv⟩ : ∃ v, vers[k]? = some v := ⟨vers[k], List.getElem?_eq_getElem hlt⟩
      obtain ⟨g, cv, a', n', c', rfl, ⟨g0, g1, g2, g3, g4⟩, rfl⟩ := Hv.out wr k v ht hvv
      have Hvv := Lib.hid hvv
      clear hvv hlk
      cases hp : v.seen L x
      all_goals
        have Hp := Lib.hid hp
        clear hp
        go_wp2_with (refine (verSees (Hl.out _ (ht.none_trans ((Tur.refl None' _).alloc _))) x v _ ⟨_, _, _, rfl⟩).mono ?_; rintro e w2 ⟨rfl, ht2⟩; rw [Hp.out])
      · go_roundw
        case rel =>
          refine ⟨k + 1, by omega, by go_num, ?_, (ht.none_trans ((Tur.refl None' _).alloc _)).none_trans ht2⟩
          intro j y hj hy
          by_cases e : j = k
          · subst e; rw [Hvv.out] at hy; cases hy; exact Hp.out
          · exact Hno.out j y (by omega) hy
        case measure => simp [intOf]; omega
      · rw [Exit.noGoto_ret]
        go_ret
        exact ⟨ret_int (idxOf_at Hvv.out Hp.out Hno.out).symm, (ht.none_trans ((Tur.refl None' _).alloc _)).none_trans ht2⟩
    · clear hlk
      go_wp2
      rw [Exit.noGoto_ret]
      go_ret
      refine ⟨?_, ht⟩
      rw [idxOf_none]
      · rfl
      · intro y hy
        obtain ⟨j, hj⟩ := List.getElem?_of_mem hy
        have hjl : j < vers.length := (List.getElem?_eq_some_iff.1 hj).1
        exact Hno.out j y (by omega) hj

/-- What 'See' hands back lies in memory: a table and whether there is one. -/
theorem at_range {L : LogM} {N : NM} {x : Int} {s : ByteArray} : N.at_ L x s = -1 ∨ ∃ k v, N.at_ L x s = (k : Nat) ∧ (N.f s)[k]? = some v ∧ v.seen L x = true := by
  unfold NM.at_ idxOf
  cases h : (N.f s).findIdx? (Ver.seen L x) with
  | none => exact .inl rfl
  | some k =>
    obtain ⟨hk, hp, _⟩ := List.findIdx?_eq_some_iff_getElem.1 h
    exact .inr ⟨k, (N.f s)[k], rfl, List.getElem?_eq_getElem hk, hp⟩

/-- The version that a transaction sees. -/
def NM.ver (N : NM) (L : LogM) (x : Int) (s : ByteArray) : Option Ver := (N.f s).find? (Ver.seen L x)

theorem ver_of_at {L : LogM} {N : NM} {x : Int} {s : ByteArray} {k : Nat} {v : Ver} (h : N.at_ L x s = (k : Int)) (hv : (N.f s)[k]? = some v) : N.ver L x s = some v := by
  unfold NM.at_ idxOf at h
  cases hf : (N.f s).findIdx? (Ver.seen L x) with
  | none => rw [hf] at h; exact absurd h (by simp)
  | some j =>
    rw [hf] at h
    have h' : (j : Int) = k := h
    have e : j = k := by omega
    clear h h'
    subst e
    obtain ⟨hk, hp, hno⟩ := List.findIdx?_eq_some_iff_getElem.1 hf
    unfold NM.ver
    rw [List.getElem?_eq_getElem hk] at hv
    cases hv
    rw [List.find?_eq_some_iff_getElem]
    exact ⟨hp, j, hk, rfl, fun i hi => by have := hno i hi; simpa using this⟩

theorem ver_none_of_at {L : LogM} {N : NM} {x : Int} {s : ByteArray} (h : N.at_ L x s = -1) : N.ver L x s = none := by
  unfold NM.at_ idxOf at h
  cases hf : (N.f s).findIdx? (Ver.seen L x) with
  | none =>
    unfold NM.ver
    rw [List.find?_eq_none]
    intro y hy
    have := List.findIdx?_eq_none_iff.1 hf y hy
    simp [this]
  | some j => rw [hf] at h; exact absurd h (by simp)

set_option maxRecDepth 100000 in
set_option maxHeartbeats 2000000 in
theorem see_any {w : World} {lb nb B : Nat} {L : LogM} {N : NM} (hl : LogAt w lb L) (hn : NamesIn w nb B N) (x : Int) (s : ByteArray) (hsz : ∀ v ∈ N.f s, v.t.cols.length * 72 ≤ 140737488355328) :
    Calls Try.prog 29 #[.pointer (some ⟨nb, 0, none⟩), .pointer (some ⟨lb, 0, none⟩), .int .i64 x, .string s] w
      fun e w' => Tur None' w w' ∧ match N.ver L x s with
        | none => e = .returned (.tuple #[.agg #[.string ByteArray.empty, .slice none 0 0, .int .i64 0], .bool false])
        | some v => ∃ cv, e = .returned (.tuple #[.agg #[.string v.t.name, cv, .int .i64 v.t.rel], .bool true]) ∧ OwnCols w' w.heap.size cv v.t.cols := by
  have hn' : ∀ w2, Tur None' w w2 → NamesIn w2 nb B N := fun w2 t => hn.tur0 t
  have hl' : ∀ w2, Tur None' w w2 → LogAt w2 lb L := fun w2 t => hl.tur t (fun h => h)
  have Hn := Lib.hid hn'
  have Hl := Lib.hid hl'
  have HSz := Lib.hid hsz
  clear hn' hl' hsz
  rcases at_range (L := L) (N := N) (x := x) (s := s) with ha | ⟨k, v, ha, hv, _⟩
  · rw [ver_none_of_at ha]
    have Ha := Lib.hid ha
    clear ha
    go_enter Try.func29, Try.ntmps29
    go_wp2_with (go_at_call 25; refine (at_any (Hl.out _ ((Tur.refl None' _).alloc _)) (Hn.out _ ((Tur.refl None' _).alloc _)) x s).mono ?_; rintro e w1 ⟨rfl, t1⟩; rw [Ha.out]; have hr := (Run.start w _).step t1; have hc := hr.cell; have hf := hr.free)
    exact bodyPost_ret (v := .tuple #[.agg #[.string ⟨#[]⟩, .slice none 0 0, .int .i64 0], .bool false]) (by simp [results, Try.results29, go_sem, hc]) rfl ⟨((hr.tur.setCell (p := ⟨w.heap.size, 0, none⟩) (fun h => absurd h (by simp)) _).setCell (p := ⟨w.heap.size, 1, none⟩) (fun h => absurd h (by simp)) _).setCell (p := ⟨w.heap.size, 2, none⟩) (fun h => absurd h (by simp)) _, rfl⟩
  · rw [ver_of_at ha hv]
    have hk : k < (N.f s).length := (List.getElem?_eq_some_iff.1 hv).1
    have hvz : v.t.cols.length * 72 ≤ 140737488355328 := HSz.out v (List.mem_of_getElem? hv)
    have Hvz := Lib.hid hvz
    have Hv := Lib.hid hv
    have Ha := Lib.hid ha
    obtain ⟨mb, ck, m, hnA⟩ := hn
    have hA : ∀ w2, Tur None' w w2 → NamesAt w2 nb B N mb ck m := fun w2 t => hnA.tur t (fun _ _ _ _ _ h => h)
    have HA := Lib.hid hA
    clear ha hv hvz hA hnA hl
    go_enter Try.func29, Try.ntmps29
    go_wp2_with (go_at_call 25; refine (at_any (Hl.out _ ((Tur.refl None' _).alloc _)) (Hn.out _ ((Tur.refl None' _).alloc _)) x s).mono ?_; rintro e w1 ⟨rfl, t1⟩; rw [Ha.out]; have hr := (Run.start w _).step t1; have hc := hr.cell; have hf := hr.free; have nc := (HA.out _ hr.tur).cell; obtain ⟨a, cap, hlk, hlen, hcase⟩ := (HA.out _ hr.tur).lookup s; obtain ⟨g, a', n', c', blk, rfl, ⟨g0, g1, g2, g3, g4⟩, hca, _⟩ := case_some hcase Hv.out; have Hca := Lib.hid hca; clear hcase hca; unfold maxLen at hlen)
    refine (copied_any Hca.out Hvz.out _ _).mono ?_
    rintro e w2 ⟨cv', rfl, hoc, t2⟩
    obtain ⟨a2, n2, c2, rfl⟩ := hoc.slice
    have hr2 := hr.step t2
    have hc2 := hr2.cell
    have hf2 := hr2.free
    clear hc hf
    go_wp2
    have hlt : w.heap.size + 1 ≤ w1.heap.size := by have := t1.size; simpa using this
    refine bodyPost_ret (v := .tuple #[.agg #[.string v.t.name, .slice a2 n2 c2, .int .i64 v.t.rel], .bool true]) (by simp [results, Try.results29, go_sem, hc2]) rfl ⟨((hr2.tur.setCell (p := ⟨w.heap.size, 0, none⟩) (fun h => absurd h (by simp)) _).setCell (p := ⟨w.heap.size, 1, none⟩) (fun h => absurd h (by simp)) _).setCell (p := ⟨w.heap.size, 2, none⟩) (fun h => absurd h (by simp)) _, _, rfl, ?_⟩
    have tf : Tur (· = w.heap.size) w2 (((w2.setCell ⟨w.heap.size, 0, none⟩ (.string v.t.name)).setCell ⟨w.heap.size, 1, none⟩ (.slice a2 n2 c2)).setCell ⟨w.heap.size, 2, none⟩ (.int .i64 v.t.rel)) :=
      (((Tur.refl (· = w.heap.size) _).setCell (p := ⟨w.heap.size, 0, none⟩) (fun _ => rfl) _).setCell (p := ⟨w.heap.size, 1, none⟩) (fun _ => rfl) _).setCell (p := ⟨w.heap.size, 2, none⟩) (fun _ => rfl) _
    exact (hoc.tur tf (fun g hg e => by have := hoc.block_ge hg; omega)).mono (by omega)

end Go.Proofs.Ytapkmgmcccgejaa
