/- Fair: it answers, and where it says yes there are not too many. -/
import Derived.Test.YtapkmgmcccgejaaStep
namespace Go.Proofs.Ytapkmgmcccgejaa
open Go.RowKit Go.Shelf

set_option maxRecDepth 100000 in
theorem largeValue (v : Val) (w : World) : Calls Try.prog 48 #[.agg #[.int .i64 v.kind, .int .i64 v.n, .float .f64 v.f, .string v.s]] w fun e w' => (∃ b, e = .returned (.bool b)) ∧ Tur None' w w' := by
  go_enter Try.func48, Try.ntmps48
  go_wp2
  go_ret
  exact ⟨⟨_, rfl⟩, (Tur.refl _ _).alloc _⟩

set_option maxRecDepth 100000 in
set_option maxHeartbeats 1000000 in
theorem largeColumns {w : World} {v : Value} {cols : List Col} {blk : Nat} (h : ColsAt w v cols blk) :
    Calls Try.prog 31 #[v] w fun e w' => (∃ b, e = .returned (.bool b)) ∧ Tur None' w w' := by
  have hlen := h.len
  obtain ⟨⟨a, cap, off, rfl, ha, hc⟩, hok, _⟩ := h
  unfold maxLen at hlen
  have Ha := Lib.hid ha
  have Hc := Lib.hid hc
  have Hok := Lib.hid hok
  clear ha hc hok
  go_enter Try.func31, Try.ntmps31
  go_wp2
  · go_ret
    exact ⟨⟨_, rfl⟩, Tur.refl _ _⟩
  go_loopw [3] (fun i wr => ∃ k : Nat, k ≤ cols.length ∧ i = .int .i64 k ∧ Tur None' w wr) (fun i _ => cols.length - (intOf i).toNat)
  case atStart => exact ⟨0, Nat.zero_le _, rfl, Tur.refl _ _⟩
  case round =>
    obtain ⟨k, hk, rfl, ht⟩ := hrel
    by_cases hlt : k < cols.length
    · obtain ⟨c, hcc⟩ : ∃ c, cols[k]? = some c := ⟨cols[k], List.getElem?_eq_getElem hlt⟩
      have ea := Ha.out (by rintro rfl; simp at hcc)
      subst ea
      have g := (Hc.out k c hcc).tur ht (fun h => h)
      have hnm := (Hok.out c (List.mem_of_getElem? hcc)).1
      unfold maxLen at hnm
      obtain ⟨g0, g1, g2, g3, g4, g5, g6⟩ := g
      go_wp2_with (go_at_call 48; refine (largeValue c.d _).mono ?_; rintro e w1 ⟨⟨b, rfl⟩, t1⟩)
      all_goals first | exact ⟨⟨k + 1, by omega, by go_num, ht.none_trans t1⟩, by simp [intOf]; omega⟩ | (go_ret; first | exact ⟨⟨_, rfl⟩, ht⟩ | exact ⟨.inr rfl, ht⟩ | exact ⟨⟨_, rfl⟩, ht.none_trans t1⟩ | exact ⟨.inr rfl, ht.none_trans t1⟩)
    · go_wp2
      go_ret
      exact ⟨⟨_, rfl⟩, ht⟩

theorem StepsAt.tur0 {w w' : World} {v : Value} {l : List Stp} (h : StepsAt w v l) (t : Tur None' w w') : StepsAt w' v l := by
  obtain ⟨⟨a, cap, rfl, hc⟩, hlen⟩ := h
  refine ⟨⟨a, cap, rfl, fun i s hs => ?_⟩, hlen⟩
  obtain ⟨b, o, cv, blk, e, h1, h2, h3, h4⟩ := hc i s hs
  exact ⟨b, o, cv, blk, e, fun j u hu => t.cell' (h1 j u hu) (fun h => h), h2.tur t (fun _ h => h), fun hn => Nat.lt_of_lt_of_le (h3 hn) t.size, h4⟩

/-- The cells of a step, one by one. -/
structure StpAt (w : World) (b o : Nat) (s : Stp) (cv : Value) : Prop where
  c0 : w.cell? ⟨b, o, none⟩ = some (.int .i64 s.kind)
  c1 : w.cell? ⟨b, o + 1, none⟩ = some (.int .i64 s.xid)
  c2 : w.cell? ⟨b, o + 2, none⟩ = some (.string s.t.name)
  c3 : w.cell? ⟨b, o + 3, none⟩ = some cv
  c4 : w.cell? ⟨b, o + 4, none⟩ = some (.int .i64 s.t.rel)

theorem StepsAt.get {w : World} {v : Value} {l : List Stp} (h : StepsAt w v l) : ∃ a cap, v = .slice a l.length cap ∧ l.length ≤ maxLen ∧
    ∀ wr i s, Tur None' w wr → l[i]? = some s → ∃ b o a' n' c' blk, a = some ⟨b, o, none⟩ ∧ StpAt wr b (o + i * 5) s (.slice a' n' c') ∧ ColsAt wr (.slice a' n' c') s.t.cols blk ∧ (s.t.cols ≠ [] → blk < w.heap.size) ∧ s.t.name.size ≤ maxLen := by
  obtain ⟨⟨a, cap, rfl, hc⟩, hlen⟩ := h
  refine ⟨a, cap, rfl, hlen, fun wr i s t hs => ?_⟩
  obtain ⟨b, o, cv, blk, rfl, h1, h2, h3, h4⟩ := hc i s hs
  obtain ⟨a', c', off', rfl, _⟩ := h2.ex
  exact ⟨b, o, a', _, c', blk, rfl, ⟨t.cell' (h1 0 _ rfl) (fun h => h), t.cell' (h1 1 _ rfl) (fun h => h), t.cell' (h1 2 _ rfl) (fun h => h), t.cell' (h1 3 _ rfl) (fun h => h), t.cell' (h1 4 _ rfl) (fun h => h)⟩, h2.tur t (fun _ h => h), h3, h4⟩

set_option maxRecDepth 100000 in
set_option maxHeartbeats 1000000 in
theorem fair_any {w : World} {v : Value} {l : List Stp} (h : StepsAt w v l) :
    Calls Try.prog 14 #[v] w fun e w' => (∃ b, e = .returned (.bool b) ∧ (b = true → l.length ≤ 120)) ∧ Tur None' w w' := by
  obtain ⟨a, cap, rfl, hlen, hc⟩ := h.get
  unfold maxLen at hlen
  have Hc := Lib.hid hc
  clear hc h
  go_enter Try.func14, Try.ntmps14
  go_wp2
  go_loopw [3] (fun i wr => ∃ k : Nat, k ≤ l.length ∧ i = .int .i64 k ∧ Tur None' w wr) (fun i _ => l.length - (intOf i).toNat)
  case atStart => exact ⟨0, Nat.zero_le _, rfl, Tur.refl _ _⟩
  case round =>
    obtain ⟨k, hk, rfl, ht⟩ := hrel
    by_cases hlt : k < l.length
    · obtain ⟨s, hss⟩ : ∃ s, l[k]? = some s := ⟨l[k], List.getElem?_eq_getElem hlt⟩
      obtain ⟨b, o, a', n', c', blk, rfl, ⟨g0, g1, g2, g3, g4⟩, hcols, _, hnm⟩ := Hc.out wr k s ht hss
      unfold maxLen at hnm
      have Hcols := Lib.hid hcols
      clear hcols hss
      go_wp2_with (go_at_call 31; refine (largeColumns Hcols.out).mono ?_; rintro e w1 ⟨⟨b, rfl⟩, t1⟩)
      all_goals first | exact ⟨⟨k + 1, by omega, by go_num, ht.none_trans t1⟩, by simp [intOf]; omega⟩ | (go_ret; first | exact ⟨⟨_, rfl, fun e => by cases e⟩, ht⟩ | exact ⟨.inl rfl, ht⟩ | exact ⟨⟨_, rfl, fun e => by cases e⟩, ht.none_trans t1⟩ | exact ⟨.inl rfl, ht.none_trans t1⟩)
    · go_wp2
      go_ret
      refine ⟨⟨_, rfl, fun e => ?_⟩, ht⟩
      simp only [decide_eq_true_eq] at e
      omega

end Go.Proofs.Ytapkmgmcccgejaa
