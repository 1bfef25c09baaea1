/- Who did something with a name that a transaction does not see. -/
import Derived.Test.YtapkmgmcccgejaaAt
import Derived.Test.YtapkmgmcccgejaaSorted
import Derived.Deep.LoopGhost
namespace Go.Proofs.Ytapkmgmcccgejaa
open Go.RowKit Go.Shelf

def unseenP (L : LogM) (x who : Int) : Bool := who != 0 && (L.state who != 3 && !L.sees x who)
def whos (vs : List Ver) : List Int := vs.flatMap (fun v => [v.xmin, v.xmax])
/-- All who did something with a name that x does not see, rising, each once. -/
def unseenL (L : LogM) (x : Int) (vs : List Ver) : List Int := ((whos vs).filter (unseenP L x)).eraseDups.mergeSort (fun a b => decide (a ≤ b))

theorem nodup_eraseDups {α : Type} [BEq α] [LawfulBEq α] : ∀ (n : Nat) (l : List α), l.length ≤ n → l.eraseDups.Nodup
  | _, [], _ => by simp
  | 0, a :: l, h => by simp at h
  | n + 1, a :: l, h => by
    rw [List.eraseDups_cons, List.nodup_cons]
    refine ⟨?_, nodup_eraseDups n _ (Nat.le_trans (List.length_filter_le _ _) (by simp at h; omega))⟩
    rw [List.mem_eraseDups]
    simp

abbrev leZ : Int → Int → Bool := fun a b => decide (a ≤ b)

theorem mergeZ_of_perm {l l' : List Int} (h : l.Perm l') : l.mergeSort leZ = l'.mergeSort leZ := by
  have tr : ∀ a b c : Int, leZ a b = true → leZ b c = true → leZ a c = true := fun a b c h1 h2 => by simp only [leZ, decide_eq_true_eq] at *; omega
  have to : ∀ a b : Int, (leZ a b || leZ b a) = true := fun a b => by simp only [leZ, Bool.or_eq_true, decide_eq_true_eq]; omega
  refine List.Perm.eq_of_pairwise (le := fun a b => leZ a b = true) (fun a b _ _ h1 h2 => ?_) (List.pairwise_mergeSort tr to l) (List.pairwise_mergeSort tr to l') (((List.mergeSort_perm l leZ).trans h).trans (List.mergeSort_perm l' leZ).symm)
  simp only [leZ, decide_eq_true_eq] at h1 h2
  omega

theorem mergeZ_pairwise (l : List Int) : (l.mergeSort leZ).Pairwise (fun a b => a ≤ b) := by
  have tr : ∀ a b c : Int, leZ a b = true → leZ b c = true → leZ a c = true := fun a b c h1 h2 => by simp only [leZ, decide_eq_true_eq] at *; omega
  have to : ∀ a b : Int, (leZ a b || leZ b a) = true := fun a b => by simp only [leZ, Bool.or_eq_true, decide_eq_true_eq]; omega
  exact (List.pairwise_mergeSort tr to l).imp (fun h => by simpa [leZ] using h)

theorem mem_unseenL {L : LogM} {x : Int} {vs : List Ver} {who : Int} : who ∈ unseenL L x vs ↔ (who ∈ whos vs ∧ unseenP L x who = true) := by
  unfold unseenL
  rw [List.mem_mergeSort, List.mem_eraseDups, List.mem_filter]

/-- The map of those that were met. -/
def MetAt (w : World) (b : Nat) (p : Int → Bool) (done : List Int) : Prop :=
  ∃ m ck, MapAt w b (Value.int .i64) m ck ∧ (∀ x ∈ m, ∃ c, x.2.1 = .int .i64 c) ∧ (∀ k, k ∈ m.map (·.1) ↔ k ∈ done.filter p) ∧ m.length ≤ done.length

theorem MetAt.tur {S : Nat → Prop} {w w' : World} {b : Nat} {p : Int → Bool} {done : List Int} (h : MetAt w b p done) (t : Tur S w w') (hn : ¬ S b) : MetAt w' b p done := by
  obtain ⟨m, ck, h1, h2⟩ := h
  exact ⟨m, ck, h1.tur t hn, h2⟩

theorem MetAt.skip {w : World} {b : Nat} {p : Int → Bool} {done : List Int} (h : MetAt w b p done) {who : Int} (hp : p who = false) : MetAt w b p (done ++ [who]) := by
  obtain ⟨m, ck, h1, h2, h3, h4⟩ := h
  refine ⟨m, ck, h1, h2, fun k => ?_, by simp; omega⟩
  rw [h3]; simp only [List.filter_append, List.mem_append, List.filter_cons, hp, List.filter_nil]; simp

theorem putE_vals {κ : Type} [DecidableEq κ] {q : Value → Prop} {m : List (Ent κ)} (h : ∀ x ∈ m, q x.2.1) (k : κ) {v : Value} (hv : q v) (ck : Nat) : ∀ x ∈ putE k v ck m, q x.2.1 := by
  unfold putE
  intro x hx
  split at hx
  · simp only [List.mem_map] at hx
    obtain ⟨y, hy, rfl⟩ := hx
    split
    · exact hv
    · exact h y hy
  · simp only [List.mem_append, List.mem_singleton] at hx
    rcases hx with hx | rfl
    · exact h x hx
    · exact hv

theorem putE_len {κ : Type} [DecidableEq κ] (k : κ) (v : Value) (ck : Nat) (m : List (Ent κ)) : (putE k v ck m).length ≤ m.length + 1 := by
  unfold putE; split <;> simp

theorem putE_mem {κ : Type} [DecidableEq κ] (k j : κ) (v : Value) (ck : Nat) (m : List (Ent κ)) : j ∈ (putE k v ck m).map (·.1) ↔ j ∈ m.map (·.1) ∨ j = k := by
  rw [putE_keys]
  split
  · rename_i h
    obtain ⟨v', hv⟩ := Option.isSome_iff_exists.1 h
    obtain ⟨x, hx, hk, _⟩ := look_mem hv
    constructor
    · exact Or.inl
    · rintro (h | rfl)
      · exact h
      · rw [← hk]; exact List.mem_map_of_mem hx
  · simp

theorem zeroInt (w : World) : (zeroValue 3).run Try.prog w = .ok (.int .i64 0) w := by kernel_rfl

/-- A look-up among them. -/
theorem MetAt.look {w : World} {b : Nat} {p : Int → Bool} {done : List Int} (h : MetAt w b p done) (who : Int) :
    ∃ c, (Instr.lookup 88 (.map (some b)) (.int .i64 who) false).run Try.prog w = .ok (.int .i64 c) w := by
  obtain ⟨m, ck, h1, h2, _⟩ := h
  have hl := run_lookup_at (klaw_int Try.underlying3) Try.underlying88 (zeroInt w) h1 who
  cases hk : Go.Proofs.Ytapkmgmcccgejaa.look who m with
  | none => rw [hk] at hl; exact ⟨0, hl⟩
  | some v =>
    obtain ⟨x, hx, _, hv⟩ := look_mem hk
    obtain ⟨c, hc⟩ := h2 x hx
    rw [hk] at hl
    exact ⟨c, by rw [hl, ← hv, hc]; rfl⟩

section
variable {P : Program} {ops : Array Oper} {rest : List Oper} {o : Oper} {a : Act} {Q : Exit → Act → World → Prop}
/-- One more is met. -/
theorem wpList_met (hg : o.guard = none) (xm xk xv : Operand) (hop : o.op = Op.mapUpdate 88 xm xk xv) {w : World} {b : Nat} {p : Int → Bool} {done : List Int} (hm : a.eval xm = .map (some b)) (h : MetAt w b p done)
    (who c : Int) (hk : a.eval xk = .int .i64 who) (hv : a.eval xv = .int .i64 c) (hp : p who = true)
    (hK : ∀ w', MetAt w' b p (done ++ [who]) → Tur (· = b) w w' → w'.heap.size = w.heap.size → wpList Try.prog ops Q rest (a.put o.dst undef) w') :
    wpList Try.prog ops Q (o :: rest) a w := by
  obtain ⟨m, ck, h1, h2, h3, h4⟩ := h
  refine wpList_mapUpdate_at hg xm xk xv hop (klaw_int Try.underlying3) Try.underlying88 hm h1 who (.int .i64 c) hk hv (fun w' hm' t s => hK w' ⟨_, _, hm', ?_, fun k => ?_, ?_⟩ t s)
  · exact putE_vals (q := fun v => ∃ c, v = .int .i64 c) h2 who ⟨c, rfl⟩ ck
  · rw [putE_mem, h3]; simp only [List.filter_append, List.mem_append, List.filter_cons, hp, List.filter_nil]; simp
  · have := putE_len who (.int .i64 c) ck m; simp; omega
end

theorem MetAt.made (w : World) (p : Int → Bool) : MetAt (w.alloc (.map #[] 0)) w.heap.size p [] := ⟨[], 0, MapAt.made w _, by simp, by simp, by simp⟩

theorem run_index2_0 (a b : Int) (w : World) : (Instr.index 89 (.agg #[.int .i64 a, .int .i64 b]) (.int .i64 0)).run Try.prog w = .ok (.int .i64 a) w := by kernel_rfl
theorem run_index2_1 (a b : Int) (w : World) : (Instr.index 89 (.agg #[.int .i64 a, .int .i64 b]) (.int .i64 1)).run Try.prog w = .ok (.int .i64 b) w := by kernel_rfl
attribute [local go_sem] run_index2_0 run_index2_1

theorem whos_len : ∀ vs : List Ver, (whos vs).length = 2 * vs.length
  | [] => rfl
  | v :: l => by
    have := whos_len l
    unfold whos at *
    simp only [List.flatMap_cons, List.length_append, List.length_cons, List.length_nil] at *
    omega

theorem whos_take {vs : List Ver} {k : Nat} {v : Ver} (h : vs[k]? = some v) : whos (vs.take (k + 1)) = whos (vs.take k) ++ [v.xmin] ++ [v.xmax] := by
  have hk : k < vs.length := (List.getElem?_eq_some_iff.1 h).1
  rw [List.take_add_one, h]
  simp [whos]

theorem ownsRow_mono {w : World} {base base' : Nat} {e : TypeId} {size : Nat} {v : Value} {n : Nat} {xs : List Value} (h : w.ownsRow base e size v n xs) (hB : base' ≤ base) : w.ownsRow base' e size v n xs := by
  obtain ⟨hl, h2⟩ := h
  refine ⟨hl, ?_⟩
  rcases h2 with h2 | ⟨g, cap, cur, rfl, hb, r⟩
  · exact .inl h2
  · exact .inr ⟨g, cap, cur, rfl, by omega, r⟩

set_option maxRecDepth 100000 in
set_option maxHeartbeats 4000000 in
theorem unseen_any {w : World} {lb nb B : Nat} {L : LogM} {N : NM} (hl : LogAt w lb L) (hn : NamesIn w nb B N) (x : Int) (s : ByteArray) (h64 : ∀ v ∈ N.f s, Is64 v.xmin ∧ Is64 v.xmax) (hlen : (N.f s).length ≤ 100000) :
    Calls Try.prog 22 #[.pointer (some ⟨nb, 0, none⟩), .pointer (some ⟨lb, 0, none⟩), .int .i64 x, .string s] w
      fun e w' => ∃ v', e = .returned v' ∧ w'.ownsRow w.heap.size 3 1 v' (unseenL L x (N.f s)).length ((unseenL L x (N.f s)).map (Value.int .i64)) ∧ Tur None' w w' := by
  obtain ⟨mb, ck, m, hn⟩ := hn
  have hl' : ∀ w2, Tur None' w w2 → LogAt w2 lb L := fun w2 t => hl.tur t (fun h => h)
  have Hl := Lib.hid hl'
  have hN : ∀ w2, Tur None' w w2 → NamesAt w2 nb B N mb ck m := fun w2 t => hn.tur t (fun _ _ _ _ _ h => h)
  have HN := Lib.hid hN
  have nc := (hN _ ((Tur.refl None' _).alloc (.map #[] 0))).cell
  have hmet : MetAt (w.alloc (.map #[] 0)) w.heap.size (unseenP L x) [] := MetAt.made w _
  obtain ⟨a, cap, hlk, _, _⟩ := (hN _ ((Tur.refl None' _).alloc (.map #[] 0))).lookup s
  have hv : ∀ (wr : World) (k : Nat) (v : Ver), Tur None' w wr → (N.f s)[k]? = some v → ∃ g cv a' n' c', a = some ⟨g, 0, none⟩ ∧ VerAt wr g (k * 5) v cv ∧ cv = .slice a' n' c' := by
    intro wr k v t hk
    obtain ⟨a2, cap2, hlk2, _, hcase⟩ := (hN _ t).lookup s
    obtain ⟨g, a', n', c', blk, e, hva, _⟩ := case_some hcase hk
    have : a2 = a := by
      have e1 := run_lookup_at (klaw_string Try.underlying9) Try.underlying59 (zeroVers (w.alloc (.map #[] 0))) (hN _ ((Tur.refl None' _).alloc (.map #[] 0))).map s
      have e2 := run_lookup_at (klaw_string Try.underlying9) Try.underlying59 (zeroVers wr) (hN _ t).map s
      rw [hlk] at e1; rw [hlk2] at e2
      injection e1 with e1; injection e2 with e2
      rw [← e2] at e1; injection e1 with e1; exact e1.symm
    subst this
    exact ⟨g, _, a', n', c', e, hva, rfl⟩
  have Hv := Lib.hid hv
  have H64 := Lib.hid h64
  have hmm := @run_makeMap Try.prog
  clear hl hl' hn hN hv h64
  generalize N.f s = vers at *
  go_enter Try.func22, Try.ntmps22
  go_wp2
  clear hmm hlk
  have ht0 : Tur None' w (w.alloc (.map #[] 0)) := (Tur.refl _ _).alloc _
  go_loopw [11, 13, 24, 33] (fun _ _ i _ wr => ∃ k : Nat, k ≤ vers.length ∧ i = .int .i64 k ∧ MetAt wr w.heap.size (unseenP L x) (whos (vers.take k)) ∧ Tur None' w wr) (fun _ _ i _ _ => vers.length - (intOf i).toNat)
  case atStart => exact ⟨0, Nat.zero_le _, rfl, hmet, ht0⟩
  case round =>
    obtain ⟨k, hk, rfl, hmk, ht⟩ := hrel
    by_cases hlt : k < vers.length
    · obtain ⟨v, hvv⟩ : ∃ v, vers[k]? = some v := ⟨vers[k], List.getElem?_eq_getElem hlt⟩
      obtain ⟨g, cv, a', n', c', rfl, ⟨g0, g1, g2, g3, g4⟩, rfl⟩ := Hv.out wr k v ht hvv
      have Hwt := Lib.hid (whos_take hvv)
      clear hvv
      obtain ⟨xmin, xmax, tt⟩ := v
      simp only at g0 g1 g2 g4
      go_wp2_with fail
      have Hk := Lib.hid (show MetAt (wr.alloc (Obj.cells #[.int .i64 xmin, .int .i64 xmax, .string tt.name, .slice a' n' c', .int .i64 tt.rel] 66)) w.heap.size (unseenP L x) (whos (vers.take k)) ∧ Tur None' w (wr.alloc (Obj.cells #[.int .i64 xmin, .int .i64 xmax, .string tt.name, .slice a' n' c', .int .i64 tt.rel] 66)) from ⟨hmk.tur ((Tur.refl None' _).alloc _) (fun h => h), ht.none_trans ((Tur.refl None' _).alloc _)⟩)
      clear g0 g1 g2 g3 g4 hmk ht
      generalize whos (vers.take k) = done at *
      go_loopw [13, 33] (fun _ i wi => ∃ j : Nat, j ≤ 2 ∧ i = .int .i64 j ∧ MetAt wi w.heap.size (unseenP L x) (done ++ [xmin, xmax].take j) ∧ Tur None' w wi) (fun _ i _ => 2 - (intOf i).toNat)
      case atStart => exact ⟨0, by omega, rfl, by simpa using Hk.out.1, Hk.out.2⟩
      case round =>
        obtain ⟨j, hj2, rfl, hj⟩ := hrel
        rcases (by omega : j = 0 ∨ j = 1 ∨ j = 2) with rfl | rfl | rfl
        · simp only [List.take_zero, List.append_nil] at hj
          cases h0 : (xmin != 0)
          all_goals
            cases h1 : (L.state xmin != 3)
            all_goals
              cases h2 : L.sees x xmin
              all_goals
                have hp : unseenP L x xmin = (xmin != 0 && (L.state xmin != 3 && !L.sees x xmin)) := rfl
                rw [h0, h1, h2] at hp
                simp only [Bool.true_and, Bool.and_true, Bool.false_and, Bool.and_false, Bool.not_true, Bool.not_false] at hp
                have H1 := Lib.hid h1
                have H2 := Lib.hid h2
                have Hp := Lib.hid hp
                clear h1 h2 hp
                go_wp2_with (first | (go_at_call 16; refine (state_any (Hl.out _ hj.2) _).mono ?_; rintro e w1 ⟨rfl, t1⟩; have h1' := H1.out; have hj' : MetAt w1 w.heap.size (unseenP L x) _ ∧ Tur None' w w1 := ⟨hj.1.tur t1 (fun h => h), hj.2.none_trans t1⟩; clear hj t1; have hj := hj'; clear hj') | (go_at_call 17; refine (sees_any (Hl.out _ hj.2) _ _).mono ?_; rintro e w1 ⟨rfl, t1⟩; rw [H2.out]; have hj' : MetAt w1 w.heap.size (unseenP L x) _ ∧ Tur None' w w1 := ⟨hj.1.tur t1 (fun h => h), hj.2.none_trans t1⟩; clear hj t1; have hj := hj'; clear hj'; obtain ⟨c, hlook⟩ := hj.1.look xmin) | (at_mapUpdate; refine wpList_met rfl _ _ _ rfl rfl hj.1 xmin _ rfl rfl Hp.out ?_; intro w3 hm3 t3 s3; have hj3 : MetAt w3 w.heap.size (unseenP L x) _ ∧ Tur None' w w3 := ⟨hm3, hj.2.trans t3 (fun k hk e => absurd hk (by simp [e]))⟩; clear hlook))
                all_goals (refine ⟨⟨0 + 1, by omega, by rfl, ?_⟩, by simp [intOf]⟩; first | exact ⟨by simpa using hj3.1, hj3.2⟩ | exact ⟨by simpa using hj.1.skip Hp.out, hj.2⟩)
        · simp only [List.take_succ_cons, List.take_zero] at hj
          cases h0 : (xmax != 0)
          all_goals
            cases h1 : (L.state xmax != 3)
            all_goals
              cases h2 : L.sees x xmax
              all_goals
                have hp : unseenP L x xmax = (xmax != 0 && (L.state xmax != 3 && !L.sees x xmax)) := rfl
                rw [h0, h1, h2] at hp
                simp only [Bool.true_and, Bool.and_true, Bool.false_and, Bool.and_false, Bool.not_true, Bool.not_false] at hp
                have H1 := Lib.hid h1
                have H2 := Lib.hid h2
                have Hp := Lib.hid hp
                clear h1 h2 hp
                go_wp2_with (first | (go_at_call 16; refine (state_any (Hl.out _ hj.2) _).mono ?_; rintro e w1 ⟨rfl, t1⟩; have h1' := H1.out; have hj' : MetAt w1 w.heap.size (unseenP L x) _ ∧ Tur None' w w1 := ⟨hj.1.tur t1 (fun h => h), hj.2.none_trans t1⟩; clear hj t1; have hj := hj'; clear hj') | (go_at_call 17; refine (sees_any (Hl.out _ hj.2) _ _).mono ?_; rintro e w1 ⟨rfl, t1⟩; rw [H2.out]; have hj' : MetAt w1 w.heap.size (unseenP L x) _ ∧ Tur None' w w1 := ⟨hj.1.tur t1 (fun h => h), hj.2.none_trans t1⟩; clear hj t1; have hj := hj'; clear hj'; obtain ⟨c, hlook⟩ := hj.1.look xmax) | (at_mapUpdate; refine wpList_met rfl _ _ _ rfl rfl hj.1 xmax _ rfl rfl Hp.out ?_; intro w3 hm3 t3 s3; have hj3 : MetAt w3 w.heap.size (unseenP L x) _ ∧ Tur None' w w3 := ⟨hm3, hj.2.trans t3 (fun k hk e => absurd hk (by simp [e]))⟩; clear hlook))
                all_goals (refine ⟨⟨1 + 1, by omega, by rfl, ?_⟩, by simp [intOf]⟩; first | exact ⟨by simpa using hj3.1, hj3.2⟩ | exact ⟨by simpa using hj.1.skip Hp.out, hj.2⟩)
        · simp only [List.take_succ_cons, List.take_zero] at hj
          go_wp2
          refine ⟨⟨k + 1, by omega, by go_num, ?_, hj.2⟩, by simp [intOf]; omega⟩
          rw [Hwt.out]
          simpa using hj.1
    · have ek : k = vers.length := by omega
      rw [ek, List.take_length] at hmk
      have hlw := whos_len vers
      have Hm := Lib.hid hmk
      clear hmk ek
      have Hlw := Lib.hid hlw
      clear hlw
      go_wp2_with fail
      refine (mapsKeys _ _).mono ?_
      rintro e w1 ⟨rfl, rfl⟩
      go_wp2_with fail
      obtain ⟨m2, ck2, hm1, hm2, hm3, hm4⟩ := Hm.out
      have hm1' : MapAt (wr.alloc (Obj.cells #[.map (some w.heap.size)] 88)) w.heap.size (Value.int .i64) m2 ck2 := hm1.tur ((Tur.refl None' _).alloc _) (fun h => h)
      have hk64 : ∀ y ∈ m2, Is64 y.1 := by
        intro y hy
        have h1 := (hm3 y.1).1 (List.mem_map_of_mem hy)
        have h2 := (List.mem_filter.1 h1).1
        unfold whos at h2
        obtain ⟨v, hv, h3⟩ := List.mem_flatMap.1 h2
        have h4 := H64.out v hv
        simp only [List.mem_cons, List.not_mem_nil, or_false] at h3
        rcases h3 with e | e
        · rw [e]; exact h4.1
        · rw [e]; exact h4.2
      have hlen2 : m2.length ≤ 1000000 := by have := Hlw.out; omega
      refine (sortedKeys hm1' hk64 hlen2 (by simp)).mono ?_
      rintro e w2 ⟨v', ss, rfl, hperm, hrow, t2⟩
      have heq : ss.mergeSort leZ = unseenL L x vers := by
        unfold unseenL
        refine mergeZ_of_perm (hperm.trans ?_)
        refine (List.perm_ext_iff_of_nodup hm1.keys (nodup_eraseDups _ _ (Nat.le_refl _))).2 (fun z => ?_)
        rw [hm3, List.mem_eraseDups]
      have hl2 : ss.length = (unseenL L x vers).length := by rw [← heq, List.length_mergeSort]
      rw [show ss.mergeSort (fun x y => decide (x ≤ y)) = unseenL L x vers from heq, hl2] at hrow
      have Hrow := Lib.hid hrow
      clear hrow hperm heq hl2 hm1 hm1' hm2 hm3 hm4 hk64 hlen2
      go_wp2
      go_ret
      exact ⟨v', rfl, ownsRow_mono Hrow.out (by have := ht.size; simp; omega), ht.none_trans (((Tur.refl None' _).alloc _).none_trans t2)⟩

end Go.Proofs.Ytapkmgmcccgejaa
