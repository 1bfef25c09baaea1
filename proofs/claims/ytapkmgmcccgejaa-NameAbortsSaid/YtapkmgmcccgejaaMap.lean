/- Maps in memory, entry by entry, for whatever kind of key. -/
import Derived.Test.YtapkmgmcccgejaaLv
import Derived.Maps.RangeWalk
namespace Go.Proofs.Ytapkmgmcccgejaa
open Go.RowKit
open Go.ChangeMaps (setBlock)

section
variable {κ : Type} [DecidableEq κ]

/-- An entry: key, value, when it was made. -/
abbrev Ent (κ : Type) := κ × Value × Nat

def toE (enc : κ → Value) (x : Ent κ) : MapEntry := ⟨enc x.1, x.2.1, x.2.2⟩

/-- Where a key stands, and its value. -/
def lookI (k : κ) : List (Ent κ) → Nat → Option (Nat × Value)
  | [], _ => none
  | x :: l, i => if k = x.1 then some (i, x.2.1) else lookI k l (i + 1)

def look (k : κ) (m : List (Ent κ)) : Option Value := (m.find? (fun x => decide (k = x.1))).map (·.2.1)

/-- What the model does with keys of a kind. -/
structure KLaw (P : Program) (kt : TypeId) (enc : κ → Value) : Prop where
  inj : ∀ a b, enc a = enc b → a = b
  check : ∀ em k w, (Instr.checkKey em 10000 kt (enc k)).run P w = .ok () w
  find : ∀ (m : List (Ent κ)) k w, (Instr.findKey kt (enc k) (m.map (toE enc))).run P w = .ok (lookI k m 0) w
  bits : ∀ k, Instr.sameBits 10000 (enc k) (enc k) = true

theorem lookI_none {k : κ} : ∀ {m : List (Ent κ)} {i : Nat}, (∀ x ∈ m, k ≠ x.1) → lookI k m i = none
  | [], _, _ => rfl
  | x :: l, i, h => by
    unfold lookI
    rw [if_neg (h x (by simp)), lookI_none (fun y hy => h y (by simp [hy]))]

theorem lookI_some {k : κ} : ∀ {m : List (Ent κ)} {i j : Nat} {x : Ent κ}, (m.map (·.1)).Nodup → m[j]? = some x → k = x.1 → lookI k m i = some (i + j, x.2.1)
  | [], _, _, _, _, h, _ => by simp at h
  | y :: l, i, 0, x, _, h, e => by simp at h; subst h; simp [lookI, e]
  | y :: l, i, j + 1, x, hn, h, e => by
    simp at h
    simp only [List.map_cons, List.nodup_cons] at hn
    have hx : x ∈ l := List.mem_of_getElem? h
    have : k ≠ y.1 := by
      intro e2
      exact hn.1 (by rw [← e2, e]; exact List.mem_map_of_mem hx)
    unfold lookI
    rw [if_neg this, lookI_some hn.2 h e]
    simp; omega

theorem look_eq {k : κ} : ∀ (m : List (Ent κ)) (i : Nat), (lookI k m i).map (·.2) = look k m
  | [], _ => rfl
  | x :: l, i => by
    unfold lookI look
    by_cases e : k = x.1
    · simp [e]
    · rw [if_neg e]
      simp only [List.find?_cons, e, decide_false]
      exact look_eq l (i + 1)

theorem look_none_iff {k : κ} {m : List (Ent κ)} : look k m = none ↔ ∀ x ∈ m, k ≠ x.1 := by
  unfold look
  simp [Option.map_eq_none_iff, List.find?_eq_none]

theorem look_mem {k : κ} {m : List (Ent κ)} {v : Value} (h : look k m = some v) : ∃ x ∈ m, x.1 = k ∧ x.2.1 = v := by
  unfold look at h
  simp only [Option.map_eq_some_iff] at h
  obtain ⟨x, hx, rfl⟩ := h
  refine ⟨x, List.mem_of_find?_eq_some hx, ?_, rfl⟩
  have := List.find?_some hx
  simpa using (of_decide_eq_true this).symm

theorem look_of_mem {m : List (Ent κ)} (hn : (m.map (·.1)).Nodup) {x : Ent κ} (h : x ∈ m) : look x.1 m = some x.2.1 := by
  obtain ⟨j, hj⟩ := List.getElem?_of_mem h
  rw [← look_eq m 0, lookI_some hn hj rfl]; rfl

/-- Block b is a map of just these entries. -/
structure MapAt (w : World) (b : Nat) (enc : κ → Value) (m : List (Ent κ)) (ck : Nat) : Prop where
  heap : w.heap[b]? = some (.map (m.map (toE enc)).toArray ck)
  keys : (m.map (·.1)).Nodup
  born : (m.map (·.2.2)).Nodup
  old : ∀ x ∈ m, x.2.2 < ck

omit [DecidableEq κ] in
theorem MapAt.lt {w : World} {b : Nat} {enc : κ → Value} {m : List (Ent κ)} {ck : Nat} (h : MapAt w b enc m ck) : b < w.heap.size := (Array.getElem?_eq_some_iff.1 h.heap).1

omit [DecidableEq κ] in
theorem MapAt.tur {S : Nat → Prop} {w w' : World} {b : Nat} {enc : κ → Value} {m : List (Ent κ)} {ck : Nat} (h : MapAt w b enc m ck) (t : Tur S w w') (hn : ¬ S b) : MapAt w' b enc m ck :=
  ⟨(t.block b h.lt hn).trans h.heap, h.keys, h.born, h.old⟩

omit [DecidableEq κ] in
theorem MapAt.made (w : World) (enc : κ → Value) : MapAt (w.alloc (.map #[] 0)) w.heap.size enc ([] : List (Ent κ)) 0 :=
  ⟨(MapKept.heap_alloc w _).1, by simp, by simp, by simp⟩

variable {P : Program} {kt et t : TypeId} {enc : κ → Value} {w : World} {b ck : Nat} {m : List (Ent κ)}

theorem run_lookup_at (K : KLaw P kt enc) (ht : P.underlying t = some (.map kt et)) {z : Value} (hz : (zeroValue et).run P w = .ok z w) (h : MapAt w b enc m ck) (k : κ) :
    (Instr.lookup t (.map (some b)) (enc k) false).run P w = .ok ((look k m).getD z) w := by
  simp only [Instr.lookup, Sem.run_bind, run_underlying ht, Result.andThen, getObj, Sem.run, h.heap, Sem.run_pure, K.check, K.find]
  rw [← look_eq m 0]
  cases hl : lookI k m 0 with
  | none => simp [Sem.run_bind, hz, Result.andThen]
  | some r => obtain ⟨i, v⟩ := r; simp [Result.andThen]

theorem run_lookup_ok_at (K : KLaw P kt enc) (ht : P.underlying t = some (.map kt et)) {z : Value} (hz : (zeroValue et).run P w = .ok z w) (h : MapAt w b enc m ck) (k : κ) :
    (Instr.lookup t (.map (some b)) (enc k) true).run P w = .ok (.tuple #[(look k m).getD z, .bool (look k m).isSome]) w := by
  simp only [Instr.lookup, Sem.run_bind, run_underlying ht, Result.andThen, getObj, Sem.run, h.heap, Sem.run_pure, K.check, K.find]
  rw [← look_eq m 0]
  cases hl : lookI k m 0 with
  | none => simp [Sem.run_bind, hz, Result.andThen]
  | some r => obtain ⟨i, v⟩ := r; simp [Result.andThen]

theorem run_lookup_nil (K : KLaw P kt enc) (ht : P.underlying t = some (.map kt et)) {z : Value} (hz : (zeroValue et).run P w = .ok z w) (k : κ) :
    (Instr.lookup t (.map none) (enc k) false).run P w = .ok z w := by
  have hf := K.find [] k w
  simp only [List.map_nil, lookI] at hf
  simp only [Instr.lookup, Sem.run_bind, run_underlying ht, Result.andThen, Sem.run_pure, K.check]
  simp [hf, hz, Result.andThen]

/-- The entries behind a store. -/
def putE (k : κ) (v : Value) (ck : Nat) (m : List (Ent κ)) : List (Ent κ) :=
  if (look k m).isSome = true then m.map (fun x => if k = x.1 then (x.1, v, x.2.2) else x) else m ++ [(k, v, ck)]
def putC (k : κ) (ck : Nat) (m : List (Ent κ)) : Nat := if (look k m).isSome = true then ck else ck + 1

theorem putE_keys (k : κ) (v : Value) (ck : Nat) (m : List (Ent κ)) : (putE k v ck m).map (·.1) = if (look k m).isSome = true then m.map (·.1) else m.map (·.1) ++ [k] := by
  unfold putE
  split
  · rw [List.map_map]; apply List.map_congr_left; intro x _; simp only [Function.comp]; split <;> rfl
  · simp

theorem look_putE (k j : κ) (v : Value) (ck : Nat) (m : List (Ent κ)) : look j (putE k v ck m) = if j = k then some v else look j m := by
  unfold putE
  by_cases hs : (look k m).isSome = true
  · rw [if_pos hs]
    by_cases e : j = k
    · subst e
      rw [if_pos rfl]
      revert hs
      induction m with
      | nil => simp [look]
      | cons x l ih =>
        intro hs
        unfold look at *
        simp only [List.map_cons, List.find?_cons] at *
        by_cases e2 : j = x.1
        · simp [e2]
        · rw [if_neg e2]
          simp only [e2, decide_false] at *
          exact ih hs
    · rw [if_neg e]
      clear hs
      induction m with
      | nil => rfl
      | cons x l ih =>
        unfold look at *
        simp only [List.map_cons, List.find?_cons] at *
        by_cases e2 : k = x.1
        · rw [if_pos e2]
          have e3 : ¬ j = x.1 := fun e4 => e (e4.trans e2.symm)
          simp only [e3, decide_false]
          exact ih
        · rw [if_neg e2]
          by_cases e3 : j = x.1
          · simp [e3]
          · simp only [e3, decide_false]; exact ih
  · rw [if_neg hs]
    have hn : look k m = none := by simpa using hs
    unfold look
    rw [List.find?_append]
    by_cases e : j = k
    · subst e
      rw [if_pos rfl]
      have : m.find? (fun x => decide (j = x.1)) = none := by
        unfold look at hn; simpa using hn
      rw [this]; simp
    · rw [if_neg e]
      simp [e]

theorem MapAt.put_wf (h : MapAt w b enc m ck) (k : κ) (v : Value) : ((putE k v ck m).map (·.1)).Nodup ∧ ((putE k v ck m).map (·.2.2)).Nodup ∧ (∀ x ∈ putE k v ck m, x.2.2 < putC k ck m) := by
  unfold putE putC
  by_cases hs : (look k m).isSome = true
  · rw [if_pos hs, if_pos hs]
    refine ⟨?_, ?_, ?_⟩
    · rw [List.map_map]
      rw [show ((fun x : Ent κ => x.1) ∘ fun x => if k = x.1 then (x.1, v, x.2.2) else x) = (fun x => x.1) from by funext x; simp only [Function.comp]; split <;> rfl]
      exact h.keys
    · rw [List.map_map]
      rw [show ((fun x : Ent κ => x.2.2) ∘ fun x => if k = x.1 then (x.1, v, x.2.2) else x) = (fun x => x.2.2) from by funext x; simp only [Function.comp]; split <;> rfl]
      exact h.born
    · intro x hx
      simp only [List.mem_map] at hx
      obtain ⟨y, hy, rfl⟩ := hx
      have := h.old y hy
      split <;> exact this
  · rw [if_neg hs, if_neg hs]
    have hn : ∀ x ∈ m, k ≠ x.1 := look_none_iff.1 (by simpa using hs)
    refine ⟨?_, ?_, ?_⟩
    · simp only [List.map_append, List.map_cons, List.map_nil]
      rw [List.nodup_append]
      refine ⟨h.keys, by simp, ?_⟩
      intro a ha c hc
      simp at hc; subst hc
      simp only [List.mem_map] at ha
      obtain ⟨y, hy, rfl⟩ := ha
      exact fun e => hn y hy e.symm
    · simp only [List.map_append, List.map_cons, List.map_nil]
      rw [List.nodup_append]
      refine ⟨h.born, by simp, ?_⟩
      intro a ha c hc
      simp at hc; subst hc
      simp only [List.mem_map] at ha
      obtain ⟨y, hy, rfl⟩ := ha
      have := h.old y hy
      omega
    · intro x hx
      simp only [List.mem_append, List.mem_singleton] at hx
      rcases hx with hx | rfl
      · have := h.old x hx; omega
      · simp

theorem setBlock_tur {w : World} {b : Nat} {o : Obj} : Tur (· = b) w (setBlock w b o) :=
  ⟨rfl, rfl, rfl, by simp [setBlock], fun k hk hn => by simp only [setBlock]; rw [Array.getElem?_setIfInBounds, if_neg (fun e => hn e.symm)]⟩

theorem setBlock_heap {w : World} {b : Nat} (hb : b < w.heap.size) (o : Obj) : (setBlock w b o).heap[b]? = some o := by
  simp [setBlock, hb]

theorem setBlock_size {w : World} {b : Nat} {o : Obj} : (setBlock w b o).heap.size = w.heap.size := by simp [setBlock]

theorem lookI_lt {k : κ} : ∀ {m : List (Ent κ)} {i j : Nat} {v : Value}, lookI k m i = some (j, v) → ∃ l x, j = i + l ∧ m[l]? = some x ∧ k = x.1 ∧ v = x.2.1
  | [], _, _, _, h => by simp [lookI] at h
  | y :: l, i, j, v, h => by
    unfold lookI at h
    by_cases e : k = y.1
    · rw [if_pos e] at h
      simp at h
      exact ⟨0, y, by omega, by simp, e, h.2.symm⟩
    · rw [if_neg e] at h
      obtain ⟨n, x, hj, hx, hk, hv⟩ := lookI_lt h
      exact ⟨n + 1, x, by omega, by simpa using hx, hk, hv⟩

theorem modify_map (k : κ) (v : Value) : ∀ (m : List (Ent κ)) (i : Nat) (x : Ent κ), (m.map (·.1)).Nodup → m[i]? = some x → k = x.1 →
    (m.map (toE enc)).modify i (fun e => { e with key := enc k, val := v }) = (m.map (fun x => if k = x.1 then (x.1, v, x.2.2) else x)).map (toE enc)
  | [], _, _, _, h, _ => by simp at h
  | y :: l, 0, x, hn, h, e => by
    simp at h; subst h
    simp only [List.map_cons, List.nodup_cons] at hn
    have : l.map (fun x => if k = x.1 then (x.1, v, x.2.2) else x) = l := by
      rw [List.map_congr_left (g := id)]
      · simp
      · intro z hz
        have : k ≠ z.1 := fun e2 => hn.1 (by rw [← e, e2]; exact List.mem_map_of_mem hz)
        simp [this]
    rw [List.map_cons, List.map_cons, this]
    simp [toE, e]
  | y :: l, i + 1, x, hn, h, e => by
    simp at h
    simp only [List.map_cons, List.nodup_cons] at hn
    have : k ≠ y.1 := fun e2 => hn.1 (by rw [← e2, e]; exact List.mem_map_of_mem (List.mem_of_getElem? h))
    simp only [List.map_cons, List.modify_succ_cons, this, if_false]
    rw [modify_map k v l i x hn.2 h e]

theorem run_update_at (K : KLaw P kt enc) (ht : P.underlying t = some (.map kt et)) (h : MapAt w b enc m ck) (k : κ) (v : Value) :
    ∃ w', (Instr.mapUpdate t (.map (some b)) (enc k) v).run P w = .ok () w' ∧ MapAt w' b enc (putE k v ck m) (putC k ck m) ∧ Tur (· = b) w w' ∧ w'.heap.size = w.heap.size := by
  obtain ⟨h1, h2, h3⟩ := h.put_wf k v
  have hlt := h.lt
  cases hl : lookI k m 0 with
  | none =>
    have hn : (look k m).isSome = false := by rw [← look_eq m 0, hl]; rfl
    refine ⟨setBlock w b (.map ((putE k v ck m).map (toE enc)).toArray (putC k ck m)), ?_, ⟨setBlock_heap hlt _, h1, h2, h3⟩, setBlock_tur, setBlock_size⟩
    simp only [Instr.mapUpdate, Sem.run_bind, run_underlying ht, Result.andThen, getObj, Sem.run, h.heap, K.check, K.find, hl, setObj]
    unfold putE putC
    rw [if_neg (by rw [hn]; decide), if_neg (by rw [hn]; decide)]
    simp [setBlock, toE]
  | some r =>
    obtain ⟨i, v0⟩ := r
    obtain ⟨l, x, hi, hx, hk, hv0⟩ := lookI_lt hl
    have hn : (look k m).isSome = true := by rw [← look_eq m 0, hl]; rfl
    refine ⟨setBlock w b (.map ((putE k v ck m).map (toE enc)).toArray (putC k ck m)), ?_, ⟨setBlock_heap hlt _, h1, h2, h3⟩, setBlock_tur, setBlock_size⟩
    have e0 : i = l := by omega
    subst e0
    have hb : Instr.keyThatStays (enc x.1) (enc k) = pure (enc k) := by
      unfold Instr.keyThatStays; rw [hk, K.bits]; rfl
    have hkey : ((((m.map (toE enc)).toArray[i]?).map (·.key)).getD (enc k)) = enc x.1 := by simp [hx, toE]
    simp only [Instr.mapUpdate, Sem.run_bind, run_underlying ht, Result.andThen, getObj, Sem.run, h.heap, K.check, K.find, hl, hkey, hb, Sem.run_pure, setObj]
    unfold putE putC
    rw [if_pos hn, if_pos hn, ← modify_map (enc := enc) k v m i x h.keys hx hk]
    simp [setBlock]

/-- The entries behind a delete. -/
def delE (k : κ) (m : List (Ent κ)) : List (Ent κ) := m.filter (fun x => !decide (k = x.1))

theorem look_delE (k j : κ) (m : List (Ent κ)) : look j (delE k m) = if j = k then none else look j m := by
  unfold delE
  induction m with
  | nil => simp [look]
  | cons x l ih =>
    by_cases e : k = x.1
    · rw [List.filter_cons_of_neg (by simp [e]), ih]
      by_cases e2 : j = k
      · simp [e2]
      · rw [if_neg e2, if_neg e2]
        unfold look
        rw [List.find?_cons, show decide (j = x.1) = false from decide_eq_false (fun e3 => e2 (e3.trans e.symm))]
    · rw [List.filter_cons_of_pos (by simp [e])]
      by_cases e3 : j = x.1
      · subst e3
        rw [if_neg (fun e4 => e e4.symm)]
        unfold look; simp
      · have : ∀ l' : List (Ent κ), look j (x :: l') = look j l' := by intro l'; unfold look; rw [List.find?_cons, show decide (j = x.1) = false from decide_eq_false e3]
        rw [this, this, ih]

theorem erase_filter (k : κ) : ∀ (m : List (Ent κ)) (i : Nat) (x : Ent κ), (m.map (·.1)).Nodup → m[i]? = some x → k = x.1 → m.eraseIdx i = delE k m
  | [], _, _, _, h, _ => by simp at h
  | y :: l, 0, x, hn, h, e => by
    simp at h; subst h
    simp only [List.map_cons, List.nodup_cons] at hn
    unfold delE
    rw [List.filter_cons_of_neg (by simp [e]), List.eraseIdx_cons_zero]
    symm
    rw [List.filter_eq_self]
    intro z hz
    have : k ≠ z.1 := fun e2 => hn.1 (by rw [← e, e2]; exact List.mem_map_of_mem hz)
    simp [this]
  | y :: l, i + 1, x, hn, h, e => by
    simp at h
    simp only [List.map_cons, List.nodup_cons] at hn
    have : k ≠ y.1 := fun e2 => hn.1 (by rw [← e2, e]; exact List.mem_map_of_mem (List.mem_of_getElem? h))
    unfold delE
    rw [List.filter_cons_of_pos (by simp [this]), List.eraseIdx_cons_succ, erase_filter k l i x hn.2 h e]; rfl

theorem MapAt.del_wf (h : MapAt w b enc m ck) (k : κ) : ((delE k m).map (·.1)).Nodup ∧ ((delE k m).map (·.2.2)).Nodup ∧ (∀ x ∈ delE k m, x.2.2 < ck) := by
  have hs : (delE k m).Sublist m := List.filter_sublist
  exact ⟨h.keys.sublist (hs.map _), h.born.sublist (hs.map _), fun x hx => h.old x (hs.subset hx)⟩

theorem run_delete_at {ty : TypeId} (K : KLaw P kt enc) (ht : P.underlying t = some (.map kt et)) (h : MapAt w b enc m ck) (k : κ) (tys : Array TypeId) (hty : tys[0]? = some t) :
    ∃ w', (Builtin.delete_ tys ty #[.map (some b), enc k]).run P w = .ok (.tuple #[]) w' ∧ MapAt w' b enc (delE k m) ck ∧ Tur (· = b) w w' ∧ w'.heap.size = w.heap.size := by
  obtain ⟨h1, h2, h3⟩ := h.del_wf k
  have hlt := h.lt
  refine ⟨setBlock w b (.map ((delE k m).map (toE enc)).toArray ck), ?_, ⟨setBlock_heap hlt _, h1, h2, h3⟩, setBlock_tur, setBlock_size⟩
  cases hl : lookI k m 0 with
  | none =>
    have hn : look k m = none := by rw [← look_eq m 0, hl]; rfl
    have e1 : delE k m = m := by
      unfold delE
      rw [List.filter_eq_self]
      intro z hz
      have := look_none_iff.1 hn z hz
      simp [this]
    rw [e1]
    simp [Builtin.delete_, hty, Sem.run_bind, run_underlying ht, Result.andThen, getObj, Sem.run, h.heap, K.check, K.find, hl, setObj, setBlock]
  | some r =>
    obtain ⟨i, v0⟩ := r
    obtain ⟨l, x, hi, hx, hk, hv0⟩ := lookI_lt hl
    have e0 : i = l := by omega
    subst e0
    rw [← erase_filter k m i x h.keys hx hk]
    have hil : i < m.length := (List.getElem?_eq_some_iff.1 hx).1
    have e2 : ((m.map (toE enc)).toArray.eraseIdxIfInBounds i) = ((m.eraseIdx i).map (toE enc)).toArray := by
      rw [Array.eraseIdxIfInBounds, dif_pos (by simpa using hil)]
      simp [ChangeMaps.map_eraseIdx]
    simp [Builtin.delete_, hty, Sem.run_bind, run_underlying ht, Result.andThen, getObj, Sem.run, h.heap, K.check, K.find, hl, setObj, setBlock, e2, ChangeMaps.map_eraseIdx]

/-- Block r walks the map in block b: the stamps of what has come. -/
def IterAt (w : World) (r b ck : Nat) (seen : Array Nat) : Prop := w.heap[r]? = some (.mapIter (some b) ck seen ck)

theorem IterAt.lt {w : World} {r b ck : Nat} {seen : Array Nat} (h : IterAt w r b ck seen) : r < w.heap.size := (Array.getElem?_eq_some_iff.1 h).1

theorem IterAt.tur {S : Nat → Prop} {w w' : World} {r b ck : Nat} {seen : Array Nat} (h : IterAt w r b ck seen) (t : Tur S w w') (hn : ¬ S r) : IterAt w' r b ck seen :=
  (t.block r h.lt hn).trans h

omit [DecidableEq κ] in
theorem run_range_at (ht : P.underlying t = some (.map kt et)) (h : MapAt w b enc m ck) :
    (Instr.range t (.map (some b))).run P w = .ok (.pointer (some ⟨w.heap.size, 0, none⟩)) (w.alloc (.mapIter (some b) ck #[] ck)) := by
  simp only [Instr.range, Sem.run_bind, run_underlying ht, Result.andThen, getObj, Sem.run, h.heap, Sem.run_pure, run_newObj]
  rfl

theorem IterAt.made (w : World) (b ck : Nat) : IterAt (w.alloc (.mapIter (some b) ck #[] ck)) w.heap.size b ck #[] := (MapKept.heap_alloc w _).1

/-- What is still to come. -/
def leftE (seen : Array Nat) (m : List (Ent κ)) : List (Ent κ) := m.filter (fun x => !seen.contains x.2.2)

omit [DecidableEq κ] in
theorem leftE_start (m : List (Ent κ)) : leftE #[] m = m := by unfold leftE; rw [List.filter_eq_self]; intro x _; simp

theorem inj_of_nodup_map {α β : Type} {f : α → β} : ∀ {l : List α}, (l.map f).Nodup → ∀ {x y : α}, x ∈ l → y ∈ l → f x = f y → x = y
  | [], _, _, _, h, _, _ => by simp at h
  | a :: l, hn, x, y, hx, hy, e => by
    simp only [List.map_cons, List.nodup_cons] at hn
    rcases List.mem_cons.1 hx with rfl | hx'
    · rcases List.mem_cons.1 hy with rfl | hy
      · rfl
      · exact absurd (by rw [e]; exact List.mem_map_of_mem hy) hn.1
    · rcases List.mem_cons.1 hy with rfl | hy
      · exact absurd (by rw [← e]; exact List.mem_map_of_mem ‹x ∈ l›) hn.1
      · exact inj_of_nodup_map hn.2 hx' hy e

theorem leftE_push (h : MapAt w b enc m ck) {x : Ent κ} (hx : x ∈ m) (seen : Array Nat) : leftE (seen.push x.2.2) m = (leftE seen m).filter (fun y => !decide (x.1 = y.1)) := by
  unfold leftE
  rw [List.filter_filter]
  apply List.filter_congr
  intro y hy
  simp only [Array.contains_push, Bool.not_or]
  have : (y.2.2 == x.2.2) = decide (x.1 = y.1) := by
    rw [Bool.eq_iff_iff]
    simp only [beq_iff_eq, decide_eq_true_eq]
    constructor
    · intro e
      have := inj_of_nodup_map h.born hy hx e
      rw [this]
    · intro e
      have := inj_of_nodup_map h.keys hx hy e
      rw [this]
  rw [this, Bool.and_comm]

omit [DecidableEq κ] in
theorem run_next_mine (h : MapAt w b enc m ck) {r : Nat} {seen : Array Nat} (hi : IterAt w r b ck seen) (ty : TypeId) :
    (leftE seen m = [] ∧ (Instr.next (.pointer (some ⟨r, 0, none⟩)) false ty).run P w = .ok (.tuple #[.bool false]) w) ∨
    ∃ x ∈ leftE seen m, ∃ w', (Instr.next (.pointer (some ⟨r, 0, none⟩)) false ty).run P w = .ok (.tuple #[.bool true, enc x.1, x.2.1]) w' ∧
      MapAt w' b enc m ck ∧ IterAt w' r b ck (seen.push x.2.2) ∧ Tur (· = r) w w' ∧ w'.heap.size = w.heap.size ∧
      (Instr.entry (.pointer (some ⟨r, 0, none⟩))).run P w' = .ok (.tuple #[enc x.1, x.2.1]) w' := by
  have hrb : r ≠ b := by rintro rfl; have := hi.symm.trans h.heap; cases this
  have hrl := hi.lt
  have ebr : ∀ x : Ent κ, (toE enc x).born = x.2.2 := fun _ => rfl
  rcases run_next_at (P := P) w ty r b ck ck seen (m.map (toE enc)).toArray ck hi h.heap (by intro x hx; simp at hx; obtain ⟨a, v, n, hm, rfl⟩ := hx; exact h.old _ hm) (Nat.le_refl _) with ⟨h0, hrun⟩ | ⟨e, he, w1, hw1, hrun⟩
  · left
    refine ⟨?_, hrun⟩
    unfold leftOf at h0
    have : ((m.map (toE enc)).toArray.filter fun e => !seen.contains e.born).toList = [] := by
      simpa using h0
    simp only [Array.toList_filter, List.filter_map] at this
    simp only [List.map_eq_nil_iff] at this
    exact this
  · right
    unfold leftOf at he
    simp only [Array.toList_filter, List.filter_map, List.mem_map] at he
    obtain ⟨x, hx, rfl⟩ := he
    have hxm : x ∈ m := (List.mem_filter.1 hx).1
    have hsz : w1.heap = w.heap := by rcases hw1 with rfl | rfl <;> rfl
    have t1 : Tur (· = r) w w1 := by rcases hw1 with rfl | rfl; exact Tur.refl _ _; exact (Tur.refl _ _).drew
    have t2 : Tur (· = r) w (setBlock w1 r (.mapIter (some b) ck (seen.push x.2.2) ck)) := t1.trans setBlock_tur (fun _ _ h => h)
    have m2 := h.tur t2 (fun e => hrb e.symm)
    have i2 : IterAt (setBlock w1 r (.mapIter (some b) ck (seen.push x.2.2) ck)) r b ck (seen.push x.2.2) := setBlock_heap (by rw [hsz]; exact hrl) _
    refine ⟨x, hx, _, hrun, m2, i2, t2, by rw [setBlock_size, hsz], ?_⟩
    have := run_entry_at (P := P) _ r b ck seen (m.map (toE enc)).toArray ck (toE enc x) i2 m2.heap (by simpa using ⟨x.1, x.2.1, x.2.2, hxm, rfl⟩) (by
      have : ((m.map (toE enc)).toArray.toList.map (·.born)) = m.map (·.2.2) := by simp [toE, Function.comp_def]
      rw [this]; exact h.born)
    exact this

/-! ### at the operation -/
variable {ops : Array Oper} {rest : List Oper} {o : Oper} {a : Act} {Q : Exit → Act → World → Prop}

/-- 'm[k] = v'. -/
theorem wpList_mapUpdate_at (hg : o.guard = none) (xm xk xv : Operand) (hop : o.op = Op.mapUpdate t xm xk xv) (K : KLaw P kt enc) (ht : P.underlying t = some (.map kt et))
    (hm : a.eval xm = .map (some b)) (h : MapAt w b enc m ck) (k : κ) (val : Value) (hk : a.eval xk = enc k) (hv : a.eval xv = val)
    (hK : ∀ w', MapAt w' b enc (putE k val ck m) (putC k ck m) → Tur (· = b) w w' → w'.heap.size = w.heap.size → wpList P ops Q rest (a.put o.dst undef) w') :
    wpList P ops Q (o :: rest) a w := by
  refine wpList_plain hg fun K' hK' => ?_
  obtain ⟨w', hrun, r1, r2, r3⟩ := run_update_at (t := t) K ht h k val
  unfold Oper.wp
  simp [execOp, hop, hm, hk, hv, hrun, Result.andThen]
  exact hK' _ _ (hK w' r1 r2 r3)

/-- The same, where the map's literal is filled. -/
theorem wpList_insert_at (hg : o.guard = none) (xm xk xv : Operand) (hop : o.op = Op.insert t xm xk xv) (K : KLaw P kt enc) (ht : P.underlying t = some (.map kt et))
    (hm : a.eval xm = .map (some b)) (h : MapAt w b enc m ck) (k : κ) (val : Value) (hk : a.eval xk = enc k) (hv : a.eval xv = val)
    (hK : ∀ w', MapAt w' b enc (putE k val ck m) (putC k ck m) → Tur (· = b) w w' → w'.heap.size = w.heap.size → wpList P ops Q rest (a.put o.dst undef) w') :
    wpList P ops Q (o :: rest) a w := by
  refine wpList_plain hg fun K' hK' => ?_
  obtain ⟨w', hrun, r1, r2, r3⟩ := run_update_at (t := t) K ht h k val
  unfold Oper.wp
  simp [execOp, hop, hm, hk, hv, hrun, Result.andThen]
  exact hK' _ _ (hK w' r1 r2 r3)

/-- 'delete(m, k)'. -/
theorem wpList_delete_at (hg : o.guard = none) (xm xk : Operand) (tk : TypeId) (hop : o.op = Op.call { callee := Callee.builtin Builtin.delete, args := #[xm, xk], argTypes := #[t, tk] }) (K : KLaw P kt enc) (ht : P.underlying t = some (.map kt et))
    (hm : a.eval xm = .map (some b)) (h : MapAt w b enc m ck) (k : κ) (hk : a.eval xk = enc k)
    (hK : ∀ w', MapAt w' b enc (delE k m) ck → Tur (· = b) w w' → w'.heap.size = w.heap.size → wpList P ops Q rest (a.put o.dst (.tuple #[])) w') :
    wpList P ops Q (o :: rest) a w := by
  refine wpList_plain hg fun K' hK' => ?_
  obtain ⟨w', hrun, r1, r2, r3⟩ := run_delete_at (ty := o.type) K ht h k #[t, tk] rfl
  unfold Oper.wp
  simp [execOp, hop, resolve, invoke, builtin, hm, hk, hrun, Result.andThen]
  exact hK' _ _ (hK w' r1 r2 r3)

omit [DecidableEq κ] in
/-- 'range m'. -/
theorem wpList_range_at (hg : o.guard = none) (xm : Operand) (hop : o.op = Op.range t xm) (ht : P.underlying t = some (.map kt et))
    (hm : a.eval xm = .map (some b)) (h : MapAt w b enc m ck)
    (hK : ∀ w', MapAt w' b enc m ck → IterAt w' w.heap.size b ck #[] → Tur None' w w' → w'.heap.size = w.heap.size + 1 → wpList P ops Q rest (a.put o.dst (.pointer (some ⟨w.heap.size, 0, none⟩))) w') :
    wpList P ops Q (o :: rest) a w := by
  refine wpList_plain hg fun K' hK' => ?_
  have hrun := run_range_at (t := t) ht h
  unfold Oper.wp
  simp [execOp, hop, hm, hrun, Result.andThen]
  exact hK' _ _ (hK _ (h.tur ((Tur.refl None' _).alloc _) (fun h => h)) (IterAt.made _ _ _) ((Tur.refl None' _).alloc _) (by simp))

omit [DecidableEq κ] in
/-- A step of a range: whichever entry is left. -/
theorem wpList_next_at (hg : o.guard = none) (it : Operand) (hop : o.op = Op.next it false) {r : Nat} {seen : Array Nat} (hit : a.eval it = .pointer (some ⟨r, 0, none⟩)) (h : MapAt w b enc m ck) (hi : IterAt w r b ck seen)
    (hDone : leftE seen m = [] → wpList P ops Q rest (a.put o.dst (.tuple #[.bool false])) w)
    (hMore : ∀ (x : Ent κ) (w' : World), x ∈ leftE seen m → MapAt w' b enc m ck → IterAt w' r b ck (seen.push x.2.2) → Tur (· = r) w w' → w'.heap.size = w.heap.size →
      (Instr.entry (.pointer (some ⟨r, 0, none⟩))).run P w' = .ok (.tuple #[enc x.1, x.2.1]) w' → wpList P ops Q rest (a.put o.dst (.tuple #[.bool true, enc x.1, x.2.1])) w') :
    wpList P ops Q (o :: rest) a w := by
  refine wpList_plain hg fun K' hK' => ?_
  unfold Oper.wp
  rcases run_next_mine (P := P) h hi o.type with ⟨h0, hrun⟩ | ⟨x, hx, w', hrun, r1, r2, r3, r4, r5⟩
  · simp [execOp, hop, hit, hrun, Result.andThen]
    exact hK' _ _ (hDone h0)
  · simp [execOp, hop, hit, hrun, Result.andThen]
    exact hK' _ _ (hMore x w' hx r1 r2 r3 r4 r5)

/-! ### kinds of keys -/
theorem klaw_int {kt : TypeId} {q : IntKind} (hk : P.underlying kt = some (.int q)) : KLaw P kt (Value.int q) where
  inj a b h := by cases h; rfl
  check em k w := MapKept.run_checkKey hk (by simp [MapKept.IsKey]) em 9999
  find m k w := by
    have : ∀ (m : List (Ent Int)) i, Instr.findNow (.int q) (.int q k) (m.map (toE (Value.int q))) i = some (lookI k m i) := by
      intro m
      induction m with
      | nil => intro i; rfl
      | cons x l ih =>
        intro i
        simp only [List.map_cons, Instr.findNow, toE, Instr.sameNow, if_true, lookI]
        by_cases e : k = x.1
        · simp [e]
        · rw [if_neg e, show (k == x.1) = false from by simp [e]]
          exact ih (i + 1)
    simp only [Instr.findKey, Sem.run_bind, run_underlying hk, Result.andThen, this]; rfl
  bits k := MapKept.sameBits_self (d := .int q) (by simp [MapKept.IsKey]) 10000

theorem klaw_string {kt : TypeId} (hk : P.underlying kt = some .string) : KLaw P kt Value.string where
  inj a b h := by cases h; rfl
  check em k w := MapKept.run_checkKey hk (by simp [MapKept.IsKey]) em 9999
  find m k w := by
    have : ∀ (m : List (Ent ByteArray)) i, Instr.findNow .string (.string k) (m.map (toE Value.string)) i = some (lookI k m i) := by
      intro m
      induction m with
      | nil => intro i; rfl
      | cons x l ih =>
        intro i
        simp only [List.map_cons, Instr.findNow, toE, Instr.sameNow, lookI]
        by_cases e : k = x.1
        · rw [if_pos e, (MapKept.bytes_beq k x.1).2 e]
        · rw [if_neg e, show (k == x.1) = false from Bool.eq_false_iff.2 (fun h => e ((MapKept.bytes_beq k x.1).1 h))]
          exact ih (i + 1)
    simp only [Instr.findKey, Sem.run_bind, run_underlying hk, Result.andThen, this]; rfl
  bits k := MapKept.sameBits_self (d := .string) (by simp [MapKept.IsKey]) 10000

end
end Go.Proofs.Ytapkmgmcccgejaa
