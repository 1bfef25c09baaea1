/- All, where a transaction sees one table at most: the walk. -/
import Derived.Test.YtapkmgmcccgejaaAll
namespace Go.Proofs.Ytapkmgmcccgejaa
open Go.RowKit Go.Shelf

def tabCells (p : Tab × Value) : List Value := [.string p.1.name, p.2, .int .i64 p.1.rel]
theorem tabCells_len (p : Tab × Value) : (tabCells p).length = 3 := rfl

/-- A slice of tables of our own. -/
structure TabsAt (w : World) (B : Nat) (v : Value) (ts : List Tab) (cvs : List Value) : Prop where
  own : w.ownsRow B 32 3 v ts.length ((ts.zip cvs).flatMap tabCells)
  len : cvs.length = ts.length
  cols : ∀ (i : Nat) (x : Tab) (cv : Value), ts[i]? = some x → cvs[i]? = some cv → OwnCols w B cv x.cols

theorem infoTab : (Try.prog.info? 32).map (fun i => (i.zero, i.size, i.bytes)) = some (some (.agg #[.string ByteArray.empty, .slice none 0 0, .int .i64 0]), 3, 48) := by kernel_rfl

theorem TabsAt.kind {w : World} {B : Nat} {v : Value} {ts : List Tab} {cvs : List Value} (h : TabsAt w B v ts cvs) {g : Nat} (hg : v.ownBlock = some g) : KindAt w g 0 := ownsRow_kind h.own hg 0 rfl

theorem TabsAt.tur0 {w w' : World} {B : Nat} {v : Value} {ts : List Tab} {cvs : List Value} (h : TabsAt w B v ts cvs) (t : Tur None' w w') : TabsAt w' B v ts cvs :=
  ⟨ownsRow_tur h.own t (fun _ _ h => h), h.len, fun i x cv hx hcv => (h.cols i x cv hx hcv).tur t (fun _ _ h => h)⟩

theorem TabsAt.append {w1 w2 : World} {B : Nat} {v v' : Value} {vs : List Tab} {cvs : List Value} (h : TabsAt w1 B v vs cvs) (x : Tab) (cv : Value) (hcv : OwnCols w1 B cv x.cols)
    (hown : w2.ownsRow B 32 3 v' (vs.length + 1) ((vs.zip cvs).flatMap tabCells ++ tabCells (x, cv))) (hg : w1.grownBy w2 v.ownBlock) : TabsAt w2 B v' (vs ++ [x]) (cvs ++ [cv]) := by
  have t : Tur (fun k => v.ownBlock = some k) w1 w2 := ⟨hg.os, hg.tape, hg.output, hg.size, fun k hk hn => hg.block k hk (fun e => hn e.symm)⟩
  have hcols : ∀ c cols, OwnCols w1 B c cols → OwnCols w2 B c cols := by
    intro c cols ho
    refine ho.tur t (fun g hg' e => ?_)
    have := (h.kind e).fn (ho.kind hg')
    omega
  refine ⟨?_, by simp [h.len], ?_⟩
  · rw [List.zip_append h.len.symm, List.flatMap_append]
    simpa using hown
  · intro i y c hy hc
    by_cases e : i < vs.length
    · rw [List.getElem?_append_left e] at hy
      rw [List.getElem?_append_left (by rw [h.len]; exact e)] at hc
      exact hcols _ _ (h.cols i y c hy hc)
    · have e1 : i = vs.length := by
        have := (List.getElem?_eq_some_iff.1 hy).1
        simp at this; omega
      subst e1
      rw [List.getElem?_append_right (by omega)] at hy
      rw [List.getElem?_append_right (by rw [h.len]; omega)] at hc
      simp at hy
      rw [h.len] at hc
      simp at hc
      subst hy; subst hc
      exact hcols _ _ hcv

theorem perm_left {κ : Type} [DecidableEq κ] {l : List (Ent κ)} (hn : (l.map (·.1)).Nodup) {x : Ent κ} (hx : x ∈ l) : l.Perm (x :: l.filter (fun y => !decide (x.1 = y.1))) := by
  induction l with
  | nil => simp at hx
  | cons a l ih =>
    simp only [List.map_cons, List.nodup_cons] at hn
    rcases List.mem_cons.1 hx with rfl | hx
    · have : (x :: l).filter (fun y => !decide (x.1 = y.1)) = l := by
        rw [List.filter_cons_of_neg (by simp), List.filter_eq_self]
        intro z hz
        have : x.1 ≠ z.1 := fun e => hn.1 (by rw [e]; exact List.mem_map_of_mem hz)
        simp [this]
      rw [this]
    · have : x.1 ≠ a.1 := fun e => hn.1 (by rw [← e]; exact List.mem_map_of_mem hx)
      rw [List.filter_cons_of_pos (by simp [this])]
      exact ((ih hn.2 hx).cons a).trans (List.Perm.swap _ _ _)

/-- What a transaction sees of a name, as a table. -/
def NM.see (N : NM) (L : LogM) (x : Int) (s : ByteArray) : Option Tab := (N.ver L x s).map (·.t)
def NM.all (N : NM) (L : LogM) (x : Int) : List Tab := N.keys.filterMap (N.see L x)

theorem eq_of_perm_one {α : Type} {l l' : List α} (h : l.Perm l') (h1 : l'.length ≤ 1) : l = l' := by
  have e := h.length_eq
  match l', h, h1 with
  | [], h, _ => exact List.Perm.eq_nil h
  | [a], h, _ => exact List.perm_singleton.1 h

set_option maxRecDepth 100000 in
set_option maxHeartbeats 4000000 in
theorem all_one {w : World} {lb nb B M : Nat} {L : LogM} {N : NM} (hl : LogAt w lb L) (hn : NamesIn w nb B N) (x : Int) (hok : N.Ok M) (hM : M ≤ 100000) (h1 : (N.all L x).length ≤ 1) :
    Calls Try.prog 18 #[.pointer (some ⟨nb, 0, none⟩), .pointer (some ⟨lb, 0, none⟩), .int .i64 x] w
      fun e w' => ∃ v cvs, e = .returned v ∧ TabsAt w' (w.heap.size + 1) v (N.all L x) cvs ∧ Tur None' w w' := by
  have hin : ∀ w2, Tur None' w w2 → NamesIn w2 nb B N := fun w2 t => hn.tur0 t
  have Hin := Lib.hid hin
  clear hin
  obtain ⟨mb, ck, m, hn⟩ := hn
  have hl' : ∀ w2, Tur None' w w2 → LogAt w2 lb L := fun w2 t => hl.tur t (fun h => h)
  have Hl := Lib.hid hl'
  have hN : ∀ w2, Tur None' w w2 → NamesAt w2 nb B N mb ck m := fun w2 t => hn.tur t (fun _ _ _ _ _ h => h)
  have hsz : ∀ s, ∀ v ∈ N.f s, v.t.cols.length * 72 ≤ 140737488355328 := fun s v hv => by have := (hok.ver s v hv).2.2; omega
  have Hsz := Lib.hid hsz
  have hto : N.all L x = m.filterMap (fun e => N.see L x e.1) := by
    unfold NM.all; rw [← hn.keys, List.filterMap_map]; rfl
  have Hkeys := Lib.hid hn.map.keys
  have hm2 := hn.map
  have nc := hn.cell
  rw [hto] at h1 ⊢
  obtain ⟨tot, htt⟩ : ∃ tot, tot = m.filterMap (fun e => N.see L x e.1) := ⟨_, rfl⟩
  rw [← htt] at h1 ⊢
  have Htot := Lib.hid htt
  have H1 := Lib.hid h1
  clear htt hl hl' hN hn hok h1 hto hsz
  go_enter Try.func18, Try.ntmps18
  go_wp2_with (at_range; refine wpList_range_at rfl _ rfl Try.underlying59 rfl hm2 ?_; intro w0 hm0 hi0 t0 s0)
  go_frame
  have H0 := Lib.hid (show MapAt w0 mb Value.string m ck ∧ IterAt w0 w.heap.size mb ck #[] ∧ Tur None' w w0 from ⟨hm0, hi0, t0⟩)
  clear hm0 hi0 t0 s0 hm2 nc
  go_loopw [7, 8, 9, 10] (fun v _ _ _ wr => ∃ (seen : Array Nat) (ts : List Tab) (cvs : List Value) (a : Option Addr) (cap : Nat), v = .slice a ts.length cap ∧ ts.length ≤ tot.length ∧ TabsAt wr (w.heap.size + 1) v ts cvs ∧ (ts ++ (leftE seen m).filterMap (fun e => N.see L x e.1)).Perm tot ∧ MapAt wr mb Value.string m ck ∧ IterAt wr w.heap.size mb ck seen ∧ Tur None' w wr) (fun _ _ _ _ wr => leftW w.heap.size m wr)
  case atStart => exact ⟨#[], [], [], none, 0, rfl, Nat.zero_le _, ⟨⟨rfl, .inl ⟨rfl, rfl⟩⟩, rfl, fun i x cv hx => by simp at hx⟩, by rw [leftE_start, ← Htot.out]; simp, H0.out⟩
  case round =>
    obtain ⟨seen, ts, cvs, a, cap, rfl, hlt, hts, hperm, hm1, hi1, ht⟩ := hrel
    have Hts := Lib.hid hts
    have Hperm := Lib.hid hperm
    clear hts hperm
    go_wp2_with (at_next; refine wpList_next_at rfl _ rfl rfl hm1 hi1 ?_ ?_)
    · intro hnil
      rw [hnil] at Hperm
      have hp := Hperm.out
      simp only [List.filterMap_nil, List.append_nil] at hp
      have e := eq_of_perm_one hp H1.out
      subst e
      have h1 := H1.out
      clear hp
      go_wp2_with (refine (sort_small _ a cap _ _ h1).mono ?_; rintro e w1 ⟨rfl, rfl⟩)
      go_ret
      exact ⟨_, cvs, rfl, Hts.out, ht⟩
    · intro kk vv nn w1 he hm3 hi3 t3 s3 hen
      have hmem : (kk, vv, nn) ∈ m := (List.mem_filter.1 he).1
      have htw : Tur None' w w1 := ht.trans t3 (fun j hj e => absurd hj (by have e : j = w.heap.size := e; omega))
      have hts1 : TabsAt w1 (w.heap.size + 1) (.slice a ts.length cap) ts cvs := by
        have h := Hts.out
        refine ⟨ownsRow_tur h.own t3 (fun g hg e => ?_), h.len, fun i x cv hx hcv => (h.cols i x cv hx hcv).tur t3 (fun g hg e => ?_)⟩
        · have := ownsRow_ge h.own hg; have e : g = w.heap.size := e; omega
        · have := (h.cols i x cv hx hcv).block_ge hg; have e : g = w.heap.size := e; omega
      have hp1 := perm_left (leftE_nodup Hkeys.out seen) he
      have hc2 := leftE_push hm3 hmem seen
      have hc3 := filter_key_lt he
      rw [← hc2] at hp1 hc3
      have hw0 := leftW_eq hi1 (m := m)
      have hpp : (ts ++ (N.see L x kk).toList ++ (leftE (seen.push nn) m).filterMap (fun e => N.see L x e.1)).Perm tot := by
        refine List.Perm.trans ?_ Hperm.out
        rw [List.append_assoc]
        refine List.Perm.append_left _ ?_
        refine List.Perm.trans ?_ (hp1.filterMap (fun e => N.see L x e.1)).symm
        rw [List.filterMap_cons]
        cases N.see L x kk <;> simp
      have hit := hi3.lt
      have HW := Lib.hid (And.intro hw0 hc3)
      have Hts1 := Lib.hid hts1
      have Hm3 := Lib.hid hm3
      have Hi3 := Lib.hid hi3
      have Hpp := Lib.hid hpp
      have hsee := see_any (Hl.out _ htw) (Hin.out _ htw) x kk (Hsz.out kk)
      clear hp1 hc2 hc3 hw0 hm3 hi3 he hmem hm1 hi1 t3 s3 Hperm Hts hpp hts1
      cases hv : N.ver L x kk with
      | none =>
        have Hv := Lib.hid hv
        rw [hv] at hsee
        clear hv
        go_wp2_with (refine hsee.mono ?_; rintro e w2 ⟨t2, he⟩; simp only at he; subst he)
        have t2 := t2.alloc (Obj.cells #[.string ByteArray.empty, .slice none 0 0, .int .i64 0] 32)
        refine ⟨⟨seen.push nn, ts, cvs, _, _, rfl, hlt, Hts1.out.tur0 t2, ?_, Hm3.out.tur t2 (fun h => h), Hi3.out.tur t2 (fun h => h), htw.none_trans t2⟩, ?_⟩
        · have h := Hpp.out
          have e : N.see L x kk = none := by unfold NM.see; rw [Hv.out]; rfl
          rw [e] at h
          simpa using h
        · rw [leftW_eq (Hi3.out.tur t2 (fun h => h)), HW.out.1]; exact HW.out.2
      | some v =>
        have Hv := Lib.hid hv
        rw [hv] at hsee
        clear hv
        obtain ⟨i0, hi, hz0, hz1, hz2⟩ := info_parts infoTab
        have hp := Hpp.out
        have e : N.see L x kk = some v.t := by unfold NM.see; rw [Hv.out]; rfl
        rw [e] at hp
        have hlen2 : (ts ++ [v.t]).length ≤ tot.length := by
          have := hp.length_eq; simp at this ⊢; omega
        have Hp := Lib.hid hp
        have h1 := H1.out
        simp only [List.length_append, List.length_cons, List.length_nil] at hlen2
        clear hp e hlt
        have Kb := Lib.hid (show w.heap.size + 1 ≤ w1.heap.size from hit)
        go_wp2_with (first | (refine hsee.mono ?_; rintro e w2 ⟨t2, he⟩; simp only at he; obtain ⟨cv, rfl, hoc⟩ := he; obtain ⟨a2, n2, c2, rfl⟩ := hoc.slice; have Hoc := Lib.hid hoc; clear hoc) | (at_builtin; refine wpList_append_lies _ rfl _ _ 45 rfl (w.heap.size + 1) 32 i0 _ 3 48 Try.underlying45 hi hz0 hz1 hz2 rfl (by omega) (.slice a ts.length cap) ts.length ((ts.zip cvs).flatMap tabCells) rfl (Hts1.out.tur0 ((t2.alloc (Obj.cells #[.string v.t.name, .slice a2 n2 c2, .int .i64 v.t.rel] 32)).alloc (Obj.cells #[.string v.t.name, .slice a2 n2 c2, .int .i64 v.t.rel] 32))).own ⟨w2.heap.size + 1, 0, none⟩ 1 1 (tabCells (v.t, .slice a2 n2 c2)) rfl rfl (World.news_of_block (cs := #[.string v.t.name, .slice a2 n2 c2, .int .i64 v.t.rel]) (t := 32) (fr := (0, 0)) (by first | exact heap_alloc_new _ _ | (have hq := heap_alloc_new (w2.alloc (Obj.cells #[.string v.t.name, .slice a2 n2 c2, .int .i64 v.t.rel] 32)) (Obj.cells #[.string v.t.name, .slice a2 n2 c2, .int .i64 v.t.rel] 32); simpa using hq))) (by simp [Value.oneCell', tabCells]) (by omega) (by unfold maxLen; omega) (by omega) (by have := t2.size; have := Kb.out; simp; omega) (w2.heap.size + 2) (by simp) ?_; intro gg cap3 w3 hown3 hgrow3 hat3 hlt3))
        have tt := (t2.alloc (Obj.cells #[.string v.t.name, .slice a2 n2 c2, .int .i64 v.t.rel] 32)).alloc (Obj.cells #[.string v.t.name, .slice a2 n2 c2, .int .i64 v.t.rel] 32)
        have hrow : ∀ g, (Value.slice a ts.length cap).ownBlock = some g → w.heap.size + 1 ≤ g := fun g hg => ownsRow_ge Hts1.out.own hg
        have tg : Tur (fun k => (Value.slice a ts.length cap).ownBlock = some k) _ w3 := ⟨hgrow3.os, hgrow3.tape, hgrow3.output, hgrow3.size, fun k hk hn => hgrow3.block k hk (fun e => hn e.symm)⟩
        have hnr : ¬ (Value.slice a ts.length cap).ownBlock = some w.heap.size := fun e => by have := hrow _ e; omega
        have hnm : ¬ (Value.slice a ts.length cap).ownBlock = some mb := fun e => by
          have h1 := Hts1.out.kind e
          have h2 : KindAt w1 mb 1 := ⟨_, Hm3.out.heap, rfl⟩
          have := h1.fn h2; omega
        refine ⟨⟨seen.push nn, ts ++ [v.t], cvs ++ [.slice a2 n2 c2], some ⟨gg, 0, none⟩, cap3, by simp, ?_, (Hts1.out.tur0 tt).append v.t _ ((Hoc.out.mono (by have := Kb.out; omega)).tur (((Tur.refl None' _).alloc _).alloc _) (fun _ _ h => h)) hown3 hgrow3, ?_, (Hm3.out.tur tt (fun h => h)).tur tg hnm, (Hi3.out.tur tt (fun h => h)).tur tg hnr, (htw.none_trans tt).trans tg (fun j hj e => ?_)⟩, ?_⟩
        · simp; omega
        · have h := Hp.out
          simpa using h
        · have := hrow j e; omega
        · rw [leftW_eq ((Hi3.out.tur tt (fun h => h)).tur tg hnr), HW.out.1]; exact HW.out.2

end Go.Proofs.Ytapkmgmcccgejaa
