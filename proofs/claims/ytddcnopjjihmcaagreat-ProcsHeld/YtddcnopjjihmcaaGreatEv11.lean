import Derived.Test.YtddcnopjjihmcaaGreatEv10
set_option linter.unusedSectionVars false
set_option linter.unusedVariables false
set_option linter.unusedSimpArgs false
namespace Go.Ev
variable {X : Type} [T : SymT] [V : SymV] {P : Program} {R : XRel X}

/-- cells written in a row that lives -/
theorem stN_sound {ι : Loc} {F : Foot} {h h' : Heap X} {w : World} (r : Rel P R ι F h w) {l : Pos} {o : Nat} {vs : List AV} {xs : List Value} {i : LocI} (hs : stN h l o vs = some h') (hi : ι l = some i) (hv : VRs ι vs xs) :
    ∃ w', (storeCells ⟨i.blk, i.base + o, none⟩ xs).run P w = .ok () w' ∧ Rel P R ι F h' w' ∧ Ev ι F h w ι F h' w' := by
  unfold stN at hs
  split at hs
  · rename_i e cs hg
    cases ha : allOne vs with
    | false => simp [ha] at hs
    | true =>
      simp only [ha, cond_true] at hs
      split at hs
      · rename_i cs' hov
        simp only [Option.some.injEq] at hs
        subst hs
        obtain ⟨hF, arr, fz, pre, us, post, h1, h2, h3, h4, h5, h6, h7⟩ := rel_cells r hg hi
        have hlen2 := congrArg List.length h2
        simp only [Array.length_toList, List.length_append] at hlen2
        obtain ⟨o1, o2⟩ := over_VRs hov h4 hv
        by_cases hnil : vs = []
        · subst hnil
          have := VRs.nil_inv hv
          subst this
          rw [over_nil hov]
          refine ⟨w, by simp [storeCells], ?_⟩
          exact rel_upd r _ hg hi rfl (fun _ _ => rfl) ⟨hF, arr, fz, pre, us, post, h1, h2, h3, h4, h5, h6, h7⟩
        · have hfit := o1 hnil
          obtain ⟨w', arr', g1, gio, g2, g3, g4, g5, g6⟩ := run_storeRow (P := P) xs (i.base + o) 0 w arr h1 (hv.oneCells ha) (by omega) (h6 rfl)
          refine ⟨w', g1, ?_⟩
          refine rel_upd r _ hg hi g2 (fun b hb => g3 b (fun e => hb ((hF b).2 e))) ⟨hF, arr', fz, pre, us.take o ++ xs ++ us.drop (o + xs.length), post, g4, ?_, h3, o2 hfit, fun n hn => by rw [g5]; exact h5 n hn, fun hf => by rw [g5]; exact h6 hf, h7⟩
          rw [g6, h2, Nat.add_zero]
          have e1 : (pre ++ us ++ post).take (i.base + o) = pre ++ us.take o := by
            rw [List.append_assoc, List.take_append, List.take_of_length_le (by omega), show i.base + o - pre.length = o by omega, List.take_append, show o - us.length = 0 by omega]
            simp
          have e2 : (pre ++ us ++ post).drop (i.base + o + xs.length) = us.drop (o + xs.length) ++ post := by
            rw [List.append_assoc, List.drop_append, List.drop_of_length_le (by omega), show i.base + o + xs.length - pre.length = o + xs.length by omega, List.drop_append, show o + xs.length - us.length = 0 by omega]
            simp
          rw [e1, e2]
          simp [List.append_assoc]
      · cases hs
  · cases hs

/-- a map's entries put anew -/
theorem rel_setMap {ι : Loc} {F : Foot} {h : Heap X} {w : World} (r : Rel P R ι F h w) {l : Pos} {es es' : List (Int × AV × Nat)} {clock clock' : Nat} {i : LocI} {ents' : Array MapEntry} (hl : h.m.get l = some (.map es clock)) (hi : ι l = some i)
    (hm : MR ι es' ents'.toList) : Rel P R ι F (h.upd l (.map es' clock')) { w with heap := w.heap.setIfInBounds i.blk (.map ents' clock') } ∧
      Ev ι F h w ι F (h.upd l (.map es' clock')) { w with heap := w.heap.setIfInBounds i.blk (.map ents' clock') } := by
  obtain ⟨hF, ents, h1, h2⟩ := rel_map r hl hi
  refine rel_upd r _ hl hi (by simp) (fun b hb => ?_) ⟨hF, ents', ?_, hm⟩
  · have : b ≠ i.blk := fun e => hb ((hF b).2 e)
    simp [Ne.symm this]
  · have := (Array.getElem?_eq_some_iff.1 h1).1
    simp [this]

/-! #### loose maps written -/
structure SetAt (k : Int) (v : AV) (b : Option Nat) (es es' : List (Int × AV × Option Nat)) : Prop where
  keys : es'.map (·.1) = es.map (·.1)
  was : ∃ v0, (k, v0, b) ∈ es
  is : (k, v, b) ∈ es'
  rest : ∀ x : Int × AV × Option Nat, x.1 ≠ k → (x ∈ es' ↔ x ∈ es)

theorem SetAt.here {k : Int} {v v0 : AV} {b : Option Nat} {es : List (Int × AV × Option Nat)} : SetAt k v b ((k, v0, b) :: es) ((k, v, b) :: es) :=
  ⟨rfl, ⟨v0, List.mem_cons_self ..⟩, List.mem_cons_self .., fun x hx => by
    simp only [List.mem_cons]
    exact or_congr ⟨fun e => absurd (by rw [e]) hx, fun e => absurd (by rw [e]) hx⟩ Iff.rfl⟩

theorem SetAt.cons {k : Int} {v : AV} {b : Option Nat} {es es' : List (Int × AV × Option Nat)} (x : Int × AV × Option Nat) (h : SetAt k v b es es') : SetAt k v b (x :: es) (x :: es') :=
  ⟨by simp [h.keys], let ⟨v0, h0⟩ := h.was; ⟨v0, List.mem_cons_of_mem _ h0⟩, List.mem_cons_of_mem _ h.is, fun y hy => by
    simp only [List.mem_cons]
    exact or_congr Iff.rfl (h.rest y hy)⟩

theorem lset_at {k : Int} {v : AV} : ∀ {es es' : List (Int × AV × Option Nat)}, lset k v es = some es' → ∃ b, SetAt k v b es es'
  | [], _, h => by simp [lset] at h
  | (k', v', b) :: es, _, h => by
    simp only [lset, ieq_eq] at h
    cases hb : (k == k') with
    | true =>
      have : k = k' := by simpa using hb
      subst this
      simp only [hb, cond_true, Option.some.injEq] at h
      subst h
      exact ⟨b, SetAt.here⟩
    | false =>
      simp only [hb, cond_false] at h
      split at h
      · rename_i es' hes
        simp only [Option.some.injEq] at h
        subst h
        obtain ⟨b', g⟩ := lset_at hes
        exact ⟨b', g.cons _⟩
      · cases h

theorem lset_none {k : Int} {v : AV} : ∀ {es : List (Int × AV × Option Nat)}, lset k v es = none → lfind k es = none
  | [], _ => rfl
  | (k', v', b) :: es, h => by
    simp only [lset, ieq_eq] at h
    simp only [lfind, ieq_eq]
    cases hb : (k == k') with
    | true => simp [hb] at h
    | false =>
      simp only [hb, cond_false] at h ⊢
      split at h
      · cases h
      · rename_i hes
        exact lset_none hes

theorem lsetB_at {n : Nat} {v : AV} : ∀ {es es' : List (Int × AV × Option Nat)}, lsetB n v es = some es' → ∃ k, SetAt k v (some n) es es'
  | [], _, h => by simp [lsetB] at h
  | (k', v', none) :: es, _, h => by
    simp only [lsetB] at h
    split at h
    · rename_i es' hes
      simp only [Option.some.injEq] at h
      subst h
      obtain ⟨k, g⟩ := lsetB_at hes
      exact ⟨k, g.cons _⟩
    · cases h
  | (k', v', some b) :: es, _, h => by
    simp only [lsetB, nbeq] at h
    by_cases hb : n = b
    · subst hb
      simp only [decide_true, cond_true, Option.some.injEq] at h
      subst h
      exact ⟨k', SetAt.here⟩
    · simp only [hb, decide_false, cond_false] at h
      split at h
      · rename_i es' hes
        simp only [Option.some.injEq] at h
        subst h
        obtain ⟨k, g⟩ := lsetB_at hes
        exact ⟨k, g.cons _⟩
      · cases h

theorem lsetK_at {k : Int} {v : AV} : ∀ {es es' : List (Int × AV × Option Nat)}, lsetK k v es = some es' → SetAt k v none es es'
  | [], _, h => by simp [lsetK] at h
  | (k', v', some b) :: es, _, h => by
    simp only [lsetK] at h
    split at h
    · rename_i es' hes
      simp only [Option.some.injEq] at h
      subst h
      exact (lsetK_at hes).cons _
    · cases h
  | (k', v', none) :: es, _, h => by
    simp only [lsetK, ieq_eq] at h
    cases hb : (k == k') with
    | true =>
      have : k = k' := by simpa using hb
      subst this
      simp only [hb, cond_true, Option.some.injEq] at h
      subst h
      exact SetAt.here
    | false =>
      simp only [hb, cond_false] at h
      split at h
      · rename_i es' hes
        simp only [Option.some.injEq] at h
        subst h
        exact (lsetK_at hes).cons _
      · cases h

theorem nodup_get {α : Type} {l : List α} (h : l.Nodup) {i j : Nat} {a : α} (hi : l[i]? = some a) (hj : l[j]? = some a) : i = j := by
  obtain ⟨h1, e1⟩ := List.getElem?_eq_some_iff.1 hi
  obtain ⟨h2, e2⟩ := List.getElem?_eq_some_iff.1 hj
  exact (List.getElem_inj h).1 (e1.trans e2.symm)

/-- two entries of one key are one -/
theorem LR.one {ι : Loc} {i : LocI} {es : List (Int × AV × Option Nat)} {l : List MapEntry} {clock : Nat} (h : LR ι i es l clock) {k : Int} {j j' : Nat} {e e' : MapEntry} (hj : l[j]? = some e) (hj' : l[j']? = some e') (hk : e.key = .int .i64 k) (hk' : e'.key = .int .i64 k) : j = j' := by
  obtain ⟨v, b, m1, g1⟩ := h.of (List.mem_of_getElem? hj) hk
  obtain ⟨v', b', m2, g2⟩ := h.of (List.mem_of_getElem? hj') hk'
  obtain ⟨rfl, rfl⟩ := keys_uniq h.keys m1 m2
  have : e.born = e'.born := g1.2.2.trans g2.2.2.symm
  exact nodup_get h.born (a := e.born) (by simp [hj]) (by simp [hj', this])

theorem LR.update {ι : Loc} {i : LocI} {es es' : List (Int × AV × Option Nat)} {l : List MapEntry} {clock : Nat} (h : LR ι i es l clock) {k : Int} {v : AV} {b : Option Nat} {u : Value} (hs : SetAt k v b es es') (hu : VR ι v u) {j : Nat} {e : MapEntry}
    (hj : l[j]? = some e) (hk : e.key = .int .i64 k) (g : MapEntry → MapEntry) (hg : (g e).key = .int .i64 k ∧ (g e).val = u ∧ (g e).born = e.born) : LR ι i es' (l.modify j g) clock := by
  have hget : ∀ n, (l.modify j g)[n]? = if j = n then (l[n]?).map g else l[n]? := fun n => by rw [List.getElem?_modify]; split <;> simp
  have hlen : es'.length = es.length := by simpa using congrArg List.length hs.keys
  have hborn : (l.modify j g).map (·.born) = l.map (·.born) := by
    apply List.ext_getElem?
    intro n
    rw [List.getElem?_map, List.getElem?_map, hget]
    by_cases e' : j = n
    · subst e'; simp [hj, hg.2.2]
    · simp [e']
  have hle : LE ι i k v b (g e) := by
    obtain ⟨v0, h0⟩ := hs.was
    obtain ⟨v', b', m, q⟩ := h.of (List.mem_of_getElem? hj) hk
    obtain ⟨rfl, rfl⟩ := keys_uniq h.keys m h0
    exact ⟨hg.1, by rw [hg.2.1]; exact hu, by rw [hg.2.2]; exact q.2.2⟩
  have hkeys : (es'.map (·.1)).Nodup := by rw [hs.keys]; exact h.keys
  refine ⟨by rw [hlen, h.len]; simp, fun k' v' b' hm => ?_, fun e' he' => ?_, hkeys, by rw [hborn]; exact h.born, fun e' he' => ?_⟩
  · by_cases hkk : k' = k
    · subst hkk
      obtain ⟨rfl, rfl⟩ := keys_uniq hkeys hm hs.is
      exact ⟨g e, List.mem_of_getElem? (i := j) (by rw [hget]; simp [hj]), hle⟩
    · obtain ⟨e', he', q⟩ := h.fwd _ _ _ ((hs.rest (k', v', b') hkk).1 hm)
      obtain ⟨n, hn⟩ := List.mem_iff_getElem?.1 he'
      refine ⟨e', List.mem_of_getElem? (i := n) ?_, q⟩
      rw [hget]
      have : j ≠ n := fun e2 => by
        subst e2
        rw [hj] at hn
        cases hn
        have := q.1
        rw [hk] at this
        cases this
        exact hkk rfl
      simp [this, hn]
  · obtain ⟨n, hn⟩ := List.mem_iff_getElem?.1 he'
    rw [hget] at hn
    by_cases e2 : j = n
    · subst e2
      simp only [if_true, hj, Option.map_some, Option.some.injEq] at hn
      subst hn
      exact ⟨k, v, b, hs.is, hle⟩
    · simp only [e2, if_false] at hn
      obtain ⟨k', v', b', m, q⟩ := h.bwd e' (List.mem_of_getElem? hn)
      refine ⟨k', v', b', (hs.rest (k', v', b') fun hkk => ?_).2 m, q⟩
      simp only at hkk
      subst hkk
      exact e2 (h.one hj hn hk q.1)
  · obtain ⟨n, hn⟩ := List.mem_iff_getElem?.1 he'
    rw [hget] at hn
    by_cases e2 : j = n
    · subst e2
      simp only [if_true, hj, Option.map_some, Option.some.injEq] at hn
      subst hn
      rw [hg.2.2]
      exact h.lt _ (List.mem_of_getElem? hj)
    · simp only [e2, if_false] at hn
      exact h.lt _ (List.mem_of_getElem? hn)

theorem LR.insert {ι : Loc} {i : LocI} {es : List (Int × AV × Option Nat)} {l : List MapEntry} {clock : Nat} (h : LR ι i es l clock) {k : Int} {v : AV} {u : Value} (hf : lfind k es = none) (hu : VR ι v u) :
    LR ι i ((k, v, some clock) :: es) (l ++ [{ key := .int .i64 k, val := u, born := clock }]) (clock + 1) := by
  have hle : LE ι i k v (some clock) { key := .int .i64 k, val := u, born := clock } := ⟨rfl, hu, rfl⟩
  refine ⟨by simp [h.len], fun k' v' b' hm => ?_, fun e he => ?_, ?_, ?_, fun e he => ?_⟩
  · rcases List.mem_cons.1 hm with e | hm
    · cases e
      exact ⟨_, by simp, hle⟩
    · obtain ⟨e, he, q⟩ := h.fwd _ _ _ hm
      exact ⟨e, by simp [he], q⟩
  · rcases List.mem_append.1 he with he | he
    · obtain ⟨k', v', b', m, q⟩ := h.bwd e he
      exact ⟨k', v', b', List.mem_cons_of_mem _ m, q⟩
    · simp only [List.mem_singleton] at he
      subst he
      exact ⟨k, v, some clock, List.mem_cons_self .., hle⟩
  · simp only [List.map_cons, List.nodup_cons, List.mem_map, not_exists, not_and]
    refine ⟨fun x hx e => ?_, h.keys⟩
    obtain ⟨k', v', b'⟩ := x
    simp only at e
    subst e
    exact lfind_none hf v' b' hx
  · rw [List.map_append, List.nodup_append]
    refine ⟨h.born, by simp, fun a ha b hb => ?_⟩
    simp only [List.map_cons, List.map_nil, List.mem_singleton] at hb
    subst hb
    obtain ⟨e, he, rfl⟩ := List.mem_map.1 ha
    have := h.lt e he
    omega
  · rcases List.mem_append.1 he with he | he
    · have := h.lt e he; omega
    · simp only [List.mem_singleton] at he
      subst he
      simp

theorem ldel_mem {k : Int} : ∀ {es : List (Int × AV × Option Nat)}, (es.map (·.1)).Nodup → ∀ x, x ∈ ldel k es ↔ (x ∈ es ∧ x.1 ≠ k)
  | [], _, x => by simp [ldel]
  | (k', v', b) :: es, hn, x => by
    simp only [List.map_cons, List.nodup_cons, List.mem_map, not_exists, not_and] at hn
    simp only [ldel, ieq_eq]
    cases hb : (k == k') with
    | true =>
      have : k = k' := by simpa using hb
      subst this
      simp only [cond_true, List.mem_cons]
      constructor
      · intro hx
        exact ⟨.inr hx, fun e => hn.1 x hx e⟩
      · rintro ⟨rfl | hx, hne⟩
        · exact absurd rfl hne
        · exact hx
    | false =>
      simp only [cond_false, List.mem_cons, ldel_mem hn.2 x]
      constructor
      · rintro (rfl | ⟨hx, hne⟩)
        · exact ⟨.inl rfl, fun e => by simp only at e; subst e; simp at hb⟩
        · exact ⟨.inr hx, hne⟩
      · rintro ⟨rfl | hx, hne⟩
        · exact .inl rfl
        · exact .inr ⟨hx, hne⟩

theorem ldel_keys {k : Int} : ∀ {es : List (Int × AV × Option Nat)}, ((ldel k es).map (·.1)).Sublist (es.map (·.1)) ∧ (lfind k es ≠ none → (ldel k es).length + 1 = es.length) ∧ (lfind k es = none → ldel k es = es)
  | [] => ⟨List.Sublist.refl _, fun h => absurd rfl h, fun _ => rfl⟩
  | (k', v', b) :: es => by
    obtain ⟨g1, g2, g3⟩ := ldel_keys (k := k) (es := es)
    simp only [ldel, lfind, ieq_eq]
    cases hb : (k == k') with
    | true => exact ⟨by simp, fun _ => by simp, fun h => by simp at h⟩
    | false =>
      simp only [cond_false]
      exact ⟨by simpa using g1, fun h => by simp [g2 h], fun h => by rw [g3 h]⟩

theorem LR.delete {ι : Loc} {i : LocI} {es : List (Int × AV × Option Nat)} {l : List MapEntry} {clock : Nat} (h : LR ι i es l clock) {k : Int} {j : Nat} {e : MapEntry} (hf : lfind k es ≠ none) (hj : l[j]? = some e) (hk : e.key = .int .i64 k) :
    LR ι i (ldel k es) (l.eraseIdx j) clock := by
  obtain ⟨q1, q2, q3⟩ := ldel_keys (k := k) (es := es)
  have hlt : j < l.length := (List.getElem?_eq_some_iff.1 hj).1
  have hmem : ∀ e', e' ∈ l.eraseIdx j ↔ ∃ n, n ≠ j ∧ l[n]? = some e' := fun e' => by
    rw [List.mem_eraseIdx_iff_getElem?]
  refine ⟨by have := q2 hf; rw [List.length_eraseIdx_of_lt hlt]; have := h.len; omega, fun k' v' b' hm => ?_, fun e' he' => ?_, q1.nodup h.keys, ?_, fun e' he' => h.lt e' (List.mem_of_mem_eraseIdx he')⟩
  · obtain ⟨m, hne⟩ := (ldel_mem h.keys _).1 hm
    obtain ⟨e', he', q⟩ := h.fwd _ _ _ m
    obtain ⟨n, hn⟩ := List.mem_iff_getElem?.1 he'
    refine ⟨e', (hmem e').2 ⟨n, fun e2 => ?_, hn⟩, q⟩
    subst e2
    rw [hj] at hn
    cases hn
    have := q.1
    rw [hk] at this
    cases this
    exact hne rfl
  · obtain ⟨n, hne, hn⟩ := (hmem e').1 he'
    obtain ⟨k', v', b', m, q⟩ := h.bwd e' (List.mem_of_getElem? hn)
    refine ⟨k', v', b', (ldel_mem h.keys _).2 ⟨m, fun hkk => ?_⟩, q⟩
    simp only at hkk
    subst hkk
    exact hne (h.one hn hj q.1 hk)
  · exact ((List.eraseIdx_sublist l j).map _).nodup h.born

/-- a loose map's entries put anew -/
theorem rel_setLmap {ι : Loc} {F : Foot} {h : Heap X} {w : World} (r : Rel P R ι F h w) {l : Pos} {es es' : List (Int × AV × Option Nat)} {clock clock' : Nat} {i : LocI} {ents' : Array MapEntry} (hl : h.m.get l = some (.lmap es clock)) (hi : ι l = some i)
    (hm : LR ι i es' ents'.toList clock') : Rel P R ι F (h.upd l (.lmap es' clock')) { w with heap := w.heap.setIfInBounds i.blk (.map ents' clock') } ∧
      Ev ι F h w ι F (h.upd l (.lmap es' clock')) { w with heap := w.heap.setIfInBounds i.blk (.map ents' clock') } := by
  obtain ⟨hF, ents, h1, h2⟩ := rel_lmap r hl hi
  refine rel_upd r _ hl hi (by simp) (fun b hb => ?_) ⟨hF, ents', ?_, hm⟩
  · have : b ≠ i.blk := fun e => hb ((hF b).2 e)
    simp [Ne.symm this]
  · have := (Array.getElem?_eq_some_iff.1 h1).1
    simp [this]

theorem sameKey (k : Int) : Instr.sameBits 10000 (.int .i64 k) (.int .i64 k) = true := by simp [Instr.sameBits]

theorem keyStays_run (k : Int) (w : World) : (Instr.keyThatStays (.int .i64 k) (.int .i64 k)).run P w = .ok (.int .i64 k) w := by
  simp [Instr.keyThatStays, sameKey]

theorem mset_sound {ι : Loc} {k : Int} {v : AV} {u : Value} (hu : VR ι v u) : ∀ {es es' : List (Int × AV × Nat)} {l : List MapEntry} (n : Nat), MR ι es l → mset k v es = some es' →
    ∃ j old e, Instr.findNow (.int .i64) (.int .i64 k) l n = some (some (n + j, old)) ∧ l[j]? = some e ∧ e.key = .int .i64 k ∧ MR ι es' (l.modify j fun e => { e with key := .int .i64 k, val := u })
  | [], _, l, n, h, hs => by simp [mset] at hs
  | (k', x, b) :: es, _, l, n, h, hs => by
    simp only [MR] at h
    obtain ⟨e, rest, rfl, h1, h2, h3, h4⟩ := h
    simp only [mset, ieq_eq] at hs
    cases hb : (k == k') with
    | true =>
      simp only [hb, cond_true, Option.some.injEq] at hs
      subst hs
      have : k = k' := by simpa using hb
      subst this
      refine ⟨0, e.val, e, by simp [Instr.findNow, Instr.sameNow, h1], rfl, h1, ?_⟩
      simp only [List.modify_zero_cons, MR]
      exact ⟨_, rest, rfl, rfl, hu, h3, h4⟩
    | false =>
      simp only [hb, cond_false] at hs
      split at hs
      · rename_i es' hes
        simp only [Option.some.injEq] at hs
        subst hs
        obtain ⟨j, old, e', g1, g2, g3, g4⟩ := mset_sound hu (n + 1) h4 hes
        refine ⟨j + 1, old, e', ?_, by simpa using g2, g3, ?_⟩
        · have hs : Instr.findNow (.int .i64) (.int .i64 k) (e :: rest) n = Instr.findNow (.int .i64) (.int .i64 k) rest (n + 1) := by
            simp [Instr.findNow, Instr.sameNow, h1, hb]
          rw [hs, g1]
          congr 3
          omega
        · simp only [List.modify_succ_cons, MR]
          exact ⟨e, _, rfl, h1, h2, h3, g4⟩
      · cases hs

theorem mset_none {k : Int} {v : AV} : ∀ {es : List (Int × AV × Nat)}, mset k v es = none → mfind k es = none
  | [], _ => rfl
  | (k', x, b) :: es, h => by
    simp only [mset, ieq_eq] at h
    simp only [mfind, ieq_eq]
    cases hb : (k == k') with
    | true => simp [hb] at h
    | false =>
      simp only [hb, cond_false] at h ⊢
      split at h
      · cases h
      · rename_i hes
        exact mset_none hes

theorem MR.push {ι : Loc} {k : Int} {v : AV} {b : Nat} {u : Value} (hu : VR ι v u) : ∀ {es : List (Int × AV × Nat)} {l : List MapEntry}, MR ι es l → MR ι (es ++ [(k, v, b)]) (l ++ [{ key := .int .i64 k, val := u, born := b }])
  | [], l, h => by simp only [MR] at h; subst h; simp only [List.nil_append, MR]; exact ⟨_, [], rfl, rfl, hu, rfl, rfl⟩
  | (k', x, b') :: es, l, h => by
    simp only [MR] at h
    obtain ⟨e, rest, rfl, h1, h2, h3, h4⟩ := h
    simp only [List.cons_append, MR]
    exact ⟨e, _, rfl, h1, h2, h3, MR.push hu h4⟩

theorem mupd_sound {ι : Loc} {F : Foot} {h h' : Heap X} {w : World} (r : Rel P R ι F h w) {t e : TypeId} {m k x v : AV} {mv kv xv : Value} (ht : mapT P t = some e) (hv : evMupd h m k x = some (v, h')) (hm : VR ι m mv) (hk : VR ι k kv) (hx : VR ι x xv) :
    ∃ w', (Instr.mapUpdate t mv kv xv).run P w = .ok () w' ∧ v = .tup [] ∧ Rel P R ι F h' w' ∧ Ev ι F h w ι F h' w' := by
  obtain ⟨kt, t1, t2⟩ := mapT_spec ht
  cases m <;> first | (simp only [evMupd] at hv; cases hv; done) | skip
  rename_i l
  cases k <;> first | (simp only [evMupd] at hv; cases hv; done) | skip
  rename_i kk n
  cases kk <;> first | (simp only [evMupd] at hv; cases hv; done) | skip
  simp only [evMupd] at hv
  split at hv
  · rename_i es clock hg
    simp only [VR] at hm hk
    obtain ⟨i, hi, rfl⟩ := hm
    subst hk
    obtain ⟨_, ents, h1, h2⟩ := rel_lmap r hg hi
    have hgo := run_getObj (P := P) h1 (by simp)
    split at hv
    · rename_i es' hes
      simp only [Option.some.injEq, Prod.mk.injEq] at hv
      obtain ⟨rfl, rfl⟩ := hv
      obtain ⟨b, hsa⟩ := lset_at hes
      obtain ⟨v0, h0⟩ := hsa.was
      obtain ⟨e0, he0, q0⟩ := h2.fwd _ _ _ h0
      obtain ⟨j, e', g1, g2, g3⟩ := findNow_some 0 h2.ints ⟨e0, he0, q0.1⟩
      simp only [Nat.zero_add] at g1
      have hf := findKey_run t2 g1 w
      have hge : ents[j]? = some e' := by rw [← Array.getElem?_toList]; exact g2
      have hso := run_setObj (P := P) (.map (ents.modify j fun e => { e with key := .int .i64 n, val := xv }) clock) h1 (by simp)
      obtain ⟨r1, r2⟩ := rel_setLmap r hg hi (clock' := clock) (ents' := ents.modify j fun e => { e with key := .int .i64 n, val := xv }) (es' := es') (by simpa using h2.update hsa hx g2 g3 (fun e => { e with key := .int .i64 n, val := xv }) ⟨rfl, rfl, rfl⟩)
      refine ⟨_, ?_, rfl, r1, r2⟩
      simp [Instr.mapUpdate, run_underlying t1, hgo, checkKey_run t2, hf, hge, g3, keyStays_run, hso]
    · rename_i hes
      simp only [Option.some.injEq, Prod.mk.injEq] at hv
      obtain ⟨rfl, rfl⟩ := hv
      have hf := findKey_run t2 (h2.absent (lset_none hes)) w
      have hso := run_setObj (P := P) (.map (ents.push { key := .int .i64 n, val := xv, born := clock }) (clock + 1)) h1 (by simp)
      obtain ⟨r1, r2⟩ := rel_setLmap r hg hi (clock' := clock + 1) (ents' := ents.push { key := .int .i64 n, val := xv, born := clock }) (es' := (n, x, some clock) :: es) (by simpa using h2.insert (lset_none hes) hx)
      refine ⟨_, ?_, rfl, r1, r2⟩
      simp [Instr.mapUpdate, run_underlying t1, hgo, checkKey_run t2, hf, hso]
  · rename_i es clock hg
    simp only [VR] at hm hk
    obtain ⟨i, hi, rfl⟩ := hm
    subst hk
    obtain ⟨_, ents, h1, h2⟩ := rel_map r hg hi
    have hgo := run_getObj (P := P) h1 (by simp)
    split at hv
    · rename_i es' hes
      simp only [Option.some.injEq, Prod.mk.injEq] at hv
      obtain ⟨rfl, rfl⟩ := hv
      obtain ⟨j, old, e', g1, g2, g3, g4⟩ := mset_sound hx 0 h2 hes
      simp only [Nat.zero_add] at g1
      have hf := findKey_run t2 g1 w
      have hge : ents[j]? = some e' := by rw [← Array.getElem?_toList]; exact g2
      have hso := run_setObj (P := P) (.map (ents.modify j fun e => { e with key := .int .i64 n, val := xv }) clock) h1 (by simp)
      obtain ⟨r1, r2⟩ := rel_setMap r hg hi (clock' := clock) (ents' := ents.modify j fun e => { e with key := .int .i64 n, val := xv }) (es' := es') (by simpa using g4)
      refine ⟨_, ?_, rfl, r1, r2⟩
      simp [Instr.mapUpdate, run_underlying t1, hgo, checkKey_run t2, hf, hge, g3, keyStays_run, hso]
    · rename_i hes
      simp only [Option.some.injEq, Prod.mk.injEq] at hv
      obtain ⟨rfl, rfl⟩ := hv
      have := mfind_sound (k := n) 0 h2
      rw [mset_none hes] at this
      have hf := findKey_run t2 this w
      have hso := run_setObj (P := P) (.map (ents.push { key := .int .i64 n, val := xv, born := clock }) (clock + 1)) h1 (by simp)
      obtain ⟨r1, r2⟩ := rel_setMap r hg hi (clock' := clock + 1) (ents' := ents.push { key := .int .i64 n, val := xv, born := clock }) (es' := es ++ [(n, x, clock)]) (by simpa using MR.push hx h2)
      refine ⟨_, ?_, rfl, r1, r2⟩
      simp [Instr.mapUpdate, run_underlying t1, hgo, checkKey_run t2, hf, hso]
  · cases hv

/-- what is put back as it was -/
theorem rel_same {ι : Loc} {F : Foot} {h : Heap X} {w w' : World} (r : Rel P R ι F h w) {l : Pos} {o : AObj X} (r1 : Rel P R ι F (h.upd l o) w') (r2 : Ev ι F h w ι F (h.upd l o) w') (hl : h.m.get l = some o) :
    Rel P R ι F h w' ∧ Ev ι F h w ι F h w' := by
  have hget : ∀ k, (h.upd l o).m.get k = h.m.get k := fun k => by
    by_cases e : k = l
    · subst e; rw [Heap.upd, PT.get_put_same, hl]
    · rw [Heap.upd, PT.get_put_other _ _ _ _ e]
  exact ⟨⟨fun k x hk => r1.obj k x (by rw [hget]; exact hk), fun k k' x x' b h1 h2 => r1.disj k k' x x' b (by rw [hget]; exact h1) (by rw [hget]; exact h2), r.fresh⟩,
    ⟨r2.dom, r2.nx, r2.size, r2.frame, fun k x b hk => r2.foot k x b (by rw [hget]; exact hk), fun _ x _ hk => ⟨x, hk⟩, r2.io⟩⟩

theorem mborn_sound {ι : Loc} {k : Int} {v : AV} {b : Nat} : ∀ {es : List (Int × AV × Nat)} {l : List MapEntry} (n : Nat), MR ι es l → mborn k es = some (v, b) →
    ∃ j old e, Instr.findNow (.int .i64) (.int .i64 k) l n = some (some (n + j, old)) ∧ l[j]? = some e ∧ e.key = .int .i64 k ∧ e.born = b ∧ VR ι v old ∧ MR ι es (l.modify j fun e => { e with key := .int .i64 k })
  | [], l, n, h, hs => by simp [mborn] at hs
  | (k', x, b') :: es, l, n, h, hs => by
    simp only [MR] at h
    obtain ⟨e, rest, rfl, h1, h2, h3, h4⟩ := h
    simp only [mborn, ieq_eq] at hs
    cases hb : (k == k') with
    | true =>
      simp only [hb, cond_true, Option.some.injEq, Prod.mk.injEq] at hs
      obtain ⟨rfl, rfl⟩ := hs
      have : k = k' := by simpa using hb
      subst this
      refine ⟨0, e.val, e, by simp [Instr.findNow, Instr.sameNow, h1], rfl, h1, h3, h2, ?_⟩
      simp only [List.modify_zero_cons, MR]
      exact ⟨_, rest, rfl, rfl, h2, h3, h4⟩
    | false =>
      simp only [hb, cond_false] at hs
      obtain ⟨j, old, e', g1, g2, g3, g4, g5, g6⟩ := mborn_sound (n + 1) h4 hs
      refine ⟨j + 1, old, e', ?_, by simpa using g2, g3, g4, g5, ?_⟩
      · have hs : Instr.findNow (.int .i64) (.int .i64 k) (e :: rest) n = Instr.findNow (.int .i64) (.int .i64 k) rest (n + 1) := by
          simp [Instr.findNow, Instr.sameNow, h1, hb]
        rw [hs, g1]
        congr 3
        omega
      · simp only [List.modify_succ_cons, MR]
        exact ⟨e, _, rfl, h1, h2, h3, g6⟩

theorem mborn_none {k : Int} : ∀ {es : List (Int × AV × Nat)}, mborn k es = none → mfind k es = none
  | [], _ => rfl
  | (k', x, b) :: es, h => by
    simp only [mborn, ieq_eq] at h
    simp only [mfind, ieq_eq]
    cases hb : (k == k') with
    | true => simp [hb] at h
    | false =>
      simp only [hb, cond_false] at h ⊢
      exact mborn_none h

theorem VR.pair {ι : Loc} {x y : AV} {u v : Value} (hx : VR ι x u) (hy : VR ι y v) : VR ι (.tup [x, y]) (.tuple #[u, v]) := by
  simp only [VR]; exact ⟨[u, v], rfl, VRs.cons hx (VRs.cons hy VRs.nil)⟩

theorem ment_sound {ι : Loc} {F : Foot} {h h' : Heap X} {w : World} (r : Rel P R ι F h w) {t e : TypeId} {zero m k v : AV} {mv kv zv : Value} {it : TypeInfo} (ht : mapT P t = some e) (hv : evMent h zero m k = some (v, h')) (hm : VR ι m mv) (hk : VR ι k kv)
    (hi : P.info? e = some it) (hz : it.zero = some zv) (hcv : cVal zv = some zero) :
    ∃ w' u, (Instr.mapEntry t mv kv).run P w = .ok u w' ∧ VR ι v u ∧ Rel P R ι F h' w' ∧ Ev ι F h w ι F h' w' := by
  obtain ⟨kt, t1, t2⟩ := mapT_spec ht
  have zr : ∀ w, (zeroValue e).run P w = .ok zv w := fun w => by simp [zeroValue, typeInfo, hi, hz]
  cases m <;> first | (simp only [evMent] at hv; cases hv; done) | skip
  rename_i l
  cases k <;> first | (simp only [evMent] at hv; cases hv; done) | skip
  rename_i kk n
  cases kk <;> first | (simp only [evMent] at hv; cases hv; done) | skip
  simp only [evMent] at hv
  split at hv
  · rename_i es clock hg
    simp only [VR] at hm hk
    obtain ⟨i, hloc, rfl⟩ := hm
    subst hk
    obtain ⟨_, ents, h1, h2⟩ := rel_lmap r hg hloc
    have hgo := run_getObj (P := P) h1 (by simp)
    split at hv
    · rename_i x b hes
      simp only [Option.some.injEq, Prod.mk.injEq] at hv
      obtain ⟨rfl, rfl⟩ := hv
      obtain ⟨j, e', g1, g2, g3⟩ := h2.find hes
      have hf := findKey_run t2 g1 w
      have hge : ents[j]? = some e' := by rw [← Array.getElem?_toList]; exact g2
      have hso := run_setObj (P := P) (.map (ents.modify j fun e => { e with key := .int .i64 n }) clock) h1 (by simp)
      have hsa : SetAt n x b es es := ⟨rfl, ⟨x, lfind_mem hes⟩, lfind_mem hes, fun _ _ => Iff.rfl⟩
      obtain ⟨r1, r2⟩ := rel_setLmap r hg hloc (clock' := clock) (ents' := ents.modify j fun e => { e with key := .int .i64 n }) (es' := es) (by simpa using h2.update hsa g3.2.1 g2 g3.1 (fun e => { e with key := .int .i64 n }) ⟨rfl, rfl, rfl⟩)
      have hst : VR ι (stamp l n b) (goInt e'.born) := by
        rw [g3.2.2]
        cases b with
        | some b => simp only [stamp, stOf, VR, goInt]; rfl
        | none => simp only [stamp, stOf, VR, goInt]; exact ⟨i, hloc, rfl⟩
      refine ⟨{ w with heap := w.heap.setIfInBounds i.blk (.map (ents.modify j fun e => { e with key := .int .i64 n }) clock) }, .tuple #[e'.val, goInt e'.born], ?_, VR.pair g3.2.1 hst, ?_⟩
      · simp [Instr.mapEntry, run_underlying t1, hgo, checkKey_run t2, hf, hge, g3.1, keyStays_run, hso]
      · exact rel_same r r1 r2 hg
    · rename_i hes
      simp only [Option.some.injEq, Prod.mk.injEq] at hv
      obtain ⟨rfl, rfl⟩ := hv
      have hf := findKey_run t2 (h2.absent hes) w
      have hso := run_setObj (P := P) (.map (ents.push { key := .int .i64 n, val := zv, born := clock }) (clock + 1)) h1 (by simp)
      obtain ⟨r1, r2⟩ := rel_setLmap r hg hloc (clock' := clock + 1) (ents' := ents.push { key := .int .i64 n, val := zv, born := clock }) (es' := (n, zero, some clock) :: es) (by simpa using h2.insert hes (cVal_sound ι hcv))
      refine ⟨_, .tuple #[zv, goInt clock], ?_, VR.pair (cVal_sound ι hcv) (by simp only [VR, goInt]; rfl), r1, r2⟩
      simp [Instr.mapEntry, run_underlying t1, hgo, checkKey_run t2, hf, zr, hso]
  · rename_i es clock hg
    simp only [VR] at hm hk
    obtain ⟨i, hloc, rfl⟩ := hm
    subst hk
    obtain ⟨_, ents, h1, h2⟩ := rel_map r hg hloc
    have hgo := run_getObj (P := P) h1 (by simp)
    split at hv
    · rename_i x b hes
      simp only [Option.some.injEq, Prod.mk.injEq] at hv
      obtain ⟨rfl, rfl⟩ := hv
      obtain ⟨j, old, e', g1, g2, g3, g4, g5, g6⟩ := mborn_sound 0 h2 hes
      simp only [Nat.zero_add] at g1
      have hf := findKey_run t2 g1 w
      have hge : ents[j]? = some e' := by rw [← Array.getElem?_toList]; exact g2
      have hso := run_setObj (P := P) (.map (ents.modify j fun e => { e with key := .int .i64 n }) clock) h1 (by simp)
      obtain ⟨r1, r2⟩ := rel_setMap r hg hloc (clock' := clock) (ents' := ents.modify j fun e => { e with key := .int .i64 n }) (es' := es) (by simpa using g6)
      refine ⟨{ w with heap := w.heap.setIfInBounds i.blk (.map (ents.modify j fun e => { e with key := .int .i64 n }) clock) }, .tuple #[old, goInt b], ?_, VR.pair g5 (by simp only [VR, goInt]; rfl), ?_⟩
      · simp [Instr.mapEntry, run_underlying t1, hgo, checkKey_run t2, hf, hge, g3, g4, keyStays_run, hso]
      · exact rel_same r r1 r2 hg
    · rename_i hes
      simp only [Option.some.injEq, Prod.mk.injEq] at hv
      obtain ⟨rfl, rfl⟩ := hv
      have := mfind_sound (k := n) 0 h2
      rw [mborn_none hes] at this
      have hf := findKey_run t2 this w
      have hso := run_setObj (P := P) (.map (ents.push { key := .int .i64 n, val := zv, born := clock }) (clock + 1)) h1 (by simp)
      obtain ⟨r1, r2⟩ := rel_setMap r hg hloc (clock' := clock + 1) (ents' := ents.push { key := .int .i64 n, val := zv, born := clock }) (es' := es ++ [(n, zero, clock)]) (by simpa using MR.push (cVal_sound ι hcv) h2)
      refine ⟨_, .tuple #[zv, goInt clock], ?_, VR.pair (cVal_sound ι hcv) (by simp only [VR, goInt]; rfl), r1, r2⟩
      simp [Instr.mapEntry, run_underlying t1, hgo, checkKey_run t2, hf, zr, hso]
  · cases hv

theorem msetB_sound {ι : Loc} {b : Nat} {v : AV} {u : Value} (hu : VR ι v u) : ∀ {es es' : List (Int × AV × Nat)} {l : List MapEntry}, MR ι es l → msetB b v es = some es' →
    ∃ j, l.findIdx? (fun e => (e.born : Int) == Int.ofNat b) = some j ∧ MR ι es' (l.modify j fun e => { e with val := u })
  | [], _, l, h, hs => by simp [msetB] at hs
  | (k', x, b') :: es, _, l, h, hs => by
    simp only [MR] at h
    obtain ⟨e, rest, rfl, h1, h2, h3, h4⟩ := h
    simp only [msetB, nbeq] at hs
    by_cases hb : b = b'
    · simp only [hb, decide_true, cond_true, Option.some.injEq] at hs
      subst hs
      refine ⟨0, by simp [List.findIdx?_cons, h3, hb], ?_⟩
      simp only [List.modify_zero_cons, MR]
      exact ⟨_, rest, rfl, h1, hu, h3, h4⟩
    · simp only [hb, decide_false, cond_false] at hs
      split at hs
      · rename_i es' hes
        simp only [Option.some.injEq] at hs
        subst hs
        obtain ⟨j, g1, g2⟩ := msetB_sound hu h4 hes
        refine ⟨j + 1, ?_, ?_⟩
        · rw [List.findIdx?_cons, g1]
          have : ¬ (e.born : Int) = (b : Int) := by omega
          simp [this]
        · simp only [List.modify_succ_cons, MR]
          exact ⟨e, _, rfl, h1, h2, h3, g2⟩
      · cases hs

theorem findIdx_born {l : List MapEntry} (hn : (l.map (·.born)).Nodup) {j : Nat} {e : MapEntry} {b : Nat} (hj : l[j]? = some e) (hb : e.born = b) : l.findIdx? (fun e => (e.born : Int) == Int.ofNat b) = some j := by
  rw [List.findIdx?_eq_some_iff_getElem]
  obtain ⟨hlt, he⟩ := List.getElem?_eq_some_iff.1 hj
  refine ⟨hlt, by simp [he, hb], fun n hn' => ?_⟩
  simp only [Int.ofNat_eq_natCast, beq_iff_eq]
  intro hc
  have hnl : n < l.length := by omega
  have : n = j := nodup_get hn (a := b) (by
    rw [List.getElem?_map, List.getElem?_eq_getElem hnl]
    simp only [Option.map_some, Option.some.injEq]
    omega) (by simp [hj, hb])
  omega

theorem lmest_sound {ι : Loc} {F : Foot} {h : Heap X} {w : World} (r : Rel P R ι F h w) {t : TypeId} {l : Pos} {i : LocI} {es es' : List (Int × AV × Option Nat)} {clock n : Nat} {k : Int} {b : Option Nat} {x : AV} {xv : Value} (hg : h.m.get l = some (.lmap es clock)) (hloc : ι l = some i)
    (hsa : SetAt k x b es es') (hn : n = stOf i k b) (hx : VR ι x xv) :
    ∃ w', (Instr.entryStore t (.map (some i.blk)) (.int .i64 (Int.ofNat n)) xv).run P w = .ok () w' ∧ Rel P R ι F (h.upd l (.lmap es' clock)) w' ∧ Ev ι F h w ι F (h.upd l (.lmap es' clock)) w' := by
  obtain ⟨_, ents, h1, h2⟩ := rel_lmap r hg hloc
  have hgo := run_getObj (P := P) h1 (by simp)
  obtain ⟨v0, h0⟩ := hsa.was
  obtain ⟨e0, he0, q0⟩ := h2.fwd _ _ _ h0
  obtain ⟨j, hj⟩ := List.mem_iff_getElem?.1 he0
  have hb0 : e0.born = n := by rw [hn]; exact q0.2.2
  have hfi : ents.findIdx? (fun e => (e.born : Int) == (n : Int)) = some j := by
    have := findIdx_born h2.born hj hb0
    rw [← this, ← List.findIdx?_toArray]
    simp
  have hso := run_setObj (P := P) (.map (ents.modify j fun e => { e with val := xv }) clock) h1 (by simp)
  obtain ⟨r1, r2⟩ := rel_setLmap r hg hloc (clock' := clock) (ents' := ents.modify j fun e => { e with val := xv }) (es' := es') (by simpa using h2.update hsa hx hj q0.1 (fun e => { e with val := xv }) ⟨q0.1, rfl, rfl⟩)
  refine ⟨_, ?_, r1, r2⟩
  simp [Instr.entryStore, hgo, hfi, hso, asInt, asIntOf]

theorem mest_sound {ι : Loc} {F : Foot} {h h' : Heap X} {w : World} (r : Rel P R ι F h w) {t : TypeId} {m s x v : AV} {mv sv xv : Value} (hv : evMest h m s x = some (v, h')) (hm : VR ι m mv) (hs : VR ι s sv) (hx : VR ι x xv) :
    ∃ w', (Instr.entryStore t mv sv xv).run P w = .ok () w' ∧ v = .tup [] ∧ Rel P R ι F h' w' ∧ Ev ι F h w ι F h' w' := by
  cases m <;> first | (simp only [evMest] at hv; cases hv; done) | skip
  rename_i l
  cases s <;> first | (simp only [evMest] at hv; cases hv; done) | skip
  rotate_left
  · rename_i l' k
    simp only [evMest] at hv
    cases hb : Pos.beq l l' with
    | false => simp [hb] at hv
    | true =>
      simp only [hb, cond_true] at hv
      have := Pos.beq_iff.1 hb
      subst this
      split at hv
      · rename_i es clock hg
        split at hv
        · rename_i es' hes
          simp only [Option.some.injEq, Prod.mk.injEq] at hv
          obtain ⟨rfl, rfl⟩ := hv
          simp only [VR] at hm hs
          obtain ⟨i, hloc, rfl⟩ := hm
          obtain ⟨i', hloc', rfl⟩ := hs
          rw [hloc] at hloc'
          cases hloc'
          obtain ⟨w', g1, g2⟩ := lmest_sound (t := t) r hg hloc (lsetK_at hes) (n := i.st k) rfl hx
          exact ⟨w', g1, rfl, g2⟩
        · cases hv
      · cases hv
  rename_i kk n
  cases n <;> first | (simp only [evMest] at hv; cases hv; done) | skip
  rename_i b
  simp only [evMest] at hv
  split at hv
  · rename_i es clock hg
    simp only [VR] at hm hs
    obtain ⟨i, hloc, rfl⟩ := hm
    subst hs
    obtain ⟨_, ents, h1, h2⟩ := rel_map r hg hloc
    have hgo := run_getObj (P := P) h1 (by simp)
    split at hv
    · rename_i es' hes
      simp only [Option.some.injEq, Prod.mk.injEq] at hv
      obtain ⟨rfl, rfl⟩ := hv
      obtain ⟨j, g1, g2⟩ := msetB_sound hx h2 hes
      have hfi : ents.findIdx? (fun e => (e.born : Int) == (b : Int)) = some j := by
        rw [← g1, ← List.findIdx?_toArray]; simp
      have hso := run_setObj (P := P) (.map (ents.modify j fun e => { e with val := xv }) clock) h1 (by simp)
      obtain ⟨r1, r2⟩ := rel_setMap r hg hloc (clock' := clock) (ents' := ents.modify j fun e => { e with val := xv }) (es' := es') (by simpa using g2)
      refine ⟨_, ?_, rfl, r1, r2⟩
      simp [Instr.entryStore, hgo, hfi, hso, asInt, asIntOf]
    · cases hv
  · rename_i es clock hg
    simp only [VR] at hm hs
    obtain ⟨i, hloc, rfl⟩ := hm
    subst hs
    split at hv
    · rename_i es' hes
      simp only [Option.some.injEq, Prod.mk.injEq] at hv
      obtain ⟨rfl, rfl⟩ := hv
      obtain ⟨k, hsa⟩ := lsetB_at hes
      obtain ⟨w', g1, g2⟩ := lmest_sound (t := t) r hg hloc hsa (n := b) rfl hx
      refine ⟨w', ?_, rfl, g2⟩
      have : (Instr.entryStore t (.map (some i.blk)) (.int kk (Int.ofNat b)) xv) = (Instr.entryStore t (.map (some i.blk)) (.int .i64 (Int.ofNat b)) xv) := by
        simp [Instr.entryStore, asInt, asIntOf]
      rw [this]
      exact g1
    · cases hv
  · cases hv

theorem mdel_list {ι : Loc} {k : Int} : ∀ {es : List (Int × AV × Nat)} {l : List MapEntry} (n : Nat), MR ι es l →
    (∃ j old, Instr.findNow (.int .i64) (.int .i64 k) l n = some (some (n + j, old)) ∧ MR ι (mdelL k es) (l.eraseIdx j)) ∨ (Instr.findNow (.int .i64) (.int .i64 k) l n = some none ∧ mdelL k es = es)
  | [], l, n, h => by simp only [MR] at h; subst h; exact .inr ⟨by simp [Instr.findNow], rfl⟩
  | (k', x, b) :: es, l, n, h => by
    simp only [MR] at h
    obtain ⟨e, rest, rfl, h1, h2, h3, h4⟩ := h
    simp only [mdelL, ieq_eq]
    cases hb : (k == k') with
    | true =>
      exact .inl ⟨0, e.val, by simp [Instr.findNow, Instr.sameNow, h1, hb], by simpa using h4⟩
    | false =>
      have hs : Instr.findNow (.int .i64) (.int .i64 k) (e :: rest) n = Instr.findNow (.int .i64) (.int .i64 k) rest (n + 1) := by
        simp [Instr.findNow, Instr.sameNow, h1, hb]
      rcases mdel_list (k := k) (n + 1) h4 with ⟨j, old, g1, g2⟩ | ⟨g1, g2⟩
      · refine .inl ⟨j + 1, old, by rw [hs, g1]; congr 3; omega, ?_⟩
        simp only [cond_false, List.eraseIdx_cons_succ, MR]
        exact ⟨e, _, rfl, h1, h2, h3, g2⟩
      · exact .inr ⟨by rw [hs, g1], by simp [g2]⟩

theorem mdel_sound {ι : Loc} {F : Foot} {h h' : Heap X} {w : World} (r : Rel P R ι F h w) {t e : TypeId} {m k v : AV} {mv kv : Value} (ts : Array TypeId) (ty : TypeId) (hts : ts[0]? = some t) (ht : mapT P t = some e) (hv : evMdel h m k = some (v, h')) (hm : VR ι m mv) (hk : VR ι k kv) :
    ∃ w', (Builtin.delete_ ts ty #[mv, kv]).run P w = .ok (.tuple #[]) w' ∧ v = .tup [] ∧ Rel P R ι F h' w' ∧ Ev ι F h w ι F h' w' := by
  obtain ⟨kt, t1, t2⟩ := mapT_spec ht
  cases m <;> first | (simp only [evMdel] at hv; cases hv; done) | skip
  · cases k <;> first | (simp only [evMdel] at hv; cases hv; done) | skip
    rename_i kk n
    cases kk <;> first | (simp only [evMdel] at hv; cases hv; done) | skip
    simp only [evMdel, Option.some.injEq, Prod.mk.injEq] at hv
    obtain ⟨rfl, rfl⟩ := hv
    simp only [VR] at hm hk
    subst hm hk
    exact ⟨w, by simp [Builtin.delete_, hts, run_underlying t1, checkKey_run t2], rfl, r, Ev.refl ..⟩
  · rename_i l
    cases k <;> first | (simp only [evMdel] at hv; cases hv; done) | skip
    rename_i kk n
    cases kk <;> first | (simp only [evMdel] at hv; cases hv; done) | skip
    simp only [evMdel] at hv
    split at hv
    · rename_i es clock hg
      simp only [Option.some.injEq, Prod.mk.injEq] at hv
      obtain ⟨rfl, rfl⟩ := hv
      simp only [VR] at hm hk
      obtain ⟨i, hloc, rfl⟩ := hm
      subst hk
      obtain ⟨_, ents, h1, h2⟩ := rel_lmap r hg hloc
      have hgo := run_getObj (P := P) h1 (by simp)
      cases hfnd : lfind n es with
      | some vb =>
        obtain ⟨j, e', g1, g2, g3⟩ := h2.find hfnd
        have hf := findKey_run t2 g1 w
        have hso := run_setObj (P := P) (.map (ents.eraseIdxIfInBounds j) clock) h1 (by simp)
        obtain ⟨r1, r2⟩ := rel_setLmap r hg hloc (clock' := clock) (ents' := ents.eraseIdxIfInBounds j) (es' := ldel n es) (by simpa using h2.delete (by simp [hfnd]) g2 g3.1)
        exact ⟨_, by simp [Builtin.delete_, hts, run_underlying t1, hgo, checkKey_run t2, hf, hso], rfl, r1, r2⟩
      | none =>
        have hf := findKey_run t2 (h2.absent hfnd) w
        have hso := run_setObj (P := P) (.map ents clock) h1 (by simp)
        obtain ⟨r1, r2⟩ := rel_setLmap r hg hloc (clock' := clock) (ents' := ents) (es' := ldel n es) (by rw [ldel_keys.2.2 hfnd]; exact h2)
        exact ⟨_, by simp [Builtin.delete_, hts, run_underlying t1, hgo, checkKey_run t2, hf, hso], rfl, r1, r2⟩
    · rename_i es clock hg
      simp only [Option.some.injEq, Prod.mk.injEq] at hv
      obtain ⟨rfl, rfl⟩ := hv
      simp only [VR] at hm hk
      obtain ⟨i, hloc, rfl⟩ := hm
      subst hk
      obtain ⟨_, ents, h1, h2⟩ := rel_map r hg hloc
      have hgo := run_getObj (P := P) h1 (by simp)
      rcases mdel_list (k := n) 0 h2 with ⟨j, old, g1, g2⟩ | ⟨g1, g2⟩
      · simp only [Nat.zero_add] at g1
        have hf := findKey_run t2 g1 w
        have hso := run_setObj (P := P) (.map (ents.eraseIdxIfInBounds j) clock) h1 (by simp)
        obtain ⟨r1, r2⟩ := rel_setMap r hg hloc (clock' := clock) (ents' := ents.eraseIdxIfInBounds j) (es' := mdelL n es) (by simpa using g2)
        exact ⟨_, by simp [Builtin.delete_, hts, run_underlying t1, hgo, checkKey_run t2, hf, hso], rfl, r1, r2⟩
      · have hf := findKey_run t2 g1 w
        have hso := run_setObj (P := P) (.map ents clock) h1 (by simp)
        obtain ⟨r1, r2⟩ := rel_setMap r hg hloc (clock' := clock) (ents' := ents) (es' := mdelL n es) (by rw [g2]; exact h2)
        exact ⟨_, by simp [Builtin.delete_, hts, run_underlying t1, hgo, checkKey_run t2, hf, hso], rfl, r1, r2⟩
    · cases hv

theorem clearM_sound {ι : Loc} {F : Foot} {h h' : Heap X} {w : World} (r : Rel P R ι F h w) {t : TypeId} {d : TypeDesc} {m v : AV} {mv : Value} (ts : Array TypeId) (ty : TypeId) (hts : ts[0]? = some t) (ht : P.underlying t = some d) (hv : evClearM h m = some (v, h')) (hm : VR ι m mv) :
    ∃ w', (Builtin.clear_ ts ty #[mv]).run P w = .ok (.tuple #[]) w' ∧ v = .tup [] ∧ Rel P R ι F h' w' ∧ Ev ι F h w ι F h' w' := by
  cases m <;> first | (simp only [evClearM] at hv; cases hv; done) | skip
  · simp only [evClearM, Option.some.injEq, Prod.mk.injEq] at hv
    obtain ⟨rfl, rfl⟩ := hv
    simp only [VR] at hm
    subst hm
    exact ⟨w, by simp [Builtin.clear_, hts, run_underlying ht], rfl, r, Ev.refl ..⟩
  · rename_i l
    simp only [evClearM] at hv
    split at hv
    · rename_i es clock hg
      simp only [Option.some.injEq, Prod.mk.injEq] at hv
      obtain ⟨rfl, rfl⟩ := hv
      simp only [VR] at hm
      obtain ⟨i, hloc, rfl⟩ := hm
      obtain ⟨_, ents, h1, h2⟩ := rel_map r hg hloc
      have hgo := run_getObj (P := P) h1 (by simp)
      have hso := run_setObj (P := P) (.map #[] clock) h1 (by simp)
      obtain ⟨r1, r2⟩ := rel_setMap r hg hloc (clock' := clock) (ents' := #[]) (es' := []) (by simp [MR])
      exact ⟨_, by simp [Builtin.clear_, hts, run_underlying ht, hgo, hso], rfl, r1, r2⟩
    · rename_i es clock hg
      simp only [Option.some.injEq, Prod.mk.injEq] at hv
      obtain ⟨rfl, rfl⟩ := hv
      simp only [VR] at hm
      obtain ⟨i, hloc, rfl⟩ := hm
      obtain ⟨_, ents, h1, h2⟩ := rel_lmap r hg hloc
      have hgo := run_getObj (P := P) h1 (by simp)
      have hso := run_setObj (P := P) (.map #[] clock) h1 (by simp)
      obtain ⟨r1, r2⟩ := rel_setLmap r hg hloc (clock' := clock) (ents' := #[]) (es' := []) ⟨rfl, fun _ _ _ h => (by cases h), fun _ h => (by cases h), List.nodup_nil, List.nodup_nil, fun _ h => (by cases h)⟩
      exact ⟨_, by simp [Builtin.clear_, hts, run_underlying ht, hgo, hso], rfl, r1, r2⟩
    · cases hv

/-! ### a range over a map -/
theorem range_sound {ι : Loc} {F : Foot} {h h' : Heap X} {w : World} (r : Rel P R ι F h w) {t e : TypeId} {m v : AV} {mv : Value} (ht : mapT P t = some e) (hv : evRange h m = some (v, h')) (hm : VR ι m mv) :
    ∃ w' u ι' F', (Instr.range t mv).run P w = .ok u w' ∧ VR ι' v u ∧ Rel P R ι' F' h' w' ∧ Ev ι F h w ι' F' h' w' := by
  obtain ⟨kt, t1, t2⟩ := mapT_spec ht
  have hn : ι h.next = none := (r.fresh _ (Nat.le_refl _)).1
  have hnew : ∀ o : Obj, (w.alloc o).heap[w.heap.size]? = some o := fun o => by
    show (w.heap.push _)[w.heap.size]? = _
    rw [Array.getElem?_push_size]
  cases m <;> first | (simp only [evRange] at hv; cases hv; done) | skip
  · simp only [evRange, Option.some.injEq, Prod.mk.injEq] at hv
    obtain ⟨rfl, rfl⟩ := hv
    simp only [VR] at hm
    subst hm
    obtain ⟨r1, r2⟩ := rel_add r (.iter none 0 [] 0) (.mapIter none 0 #[] 0) (.at w.heap.size 0 0) ⟨fun _ => Iff.rfl, rfl, none, hnew _, rfl⟩
    refine ⟨_, .pointer (some ⟨w.heap.size, 0, none⟩), _, _, ?_, ?_, r1, r2⟩
    · simp [Instr.range, run_underlying t1]
    · simp only [VR]; exact ⟨_, Loc.set_same .., rfl⟩
  · rename_i l
    simp only [evRange] at hv
    split at hv
    · rename_i es clock hg
      simp only [Option.some.injEq, Prod.mk.injEq] at hv
      obtain ⟨rfl, rfl⟩ := hv
      simp only [VR] at hm
      obtain ⟨i, hloc, rfl⟩ := hm
      obtain ⟨_, ents, h1, h2⟩ := rel_map r hg hloc
      have hgo := run_getObj (P := P) h1 (by simp)
      obtain ⟨r1, r2⟩ := rel_add r (.iter (some l) clock [] clock) (.mapIter (some i.blk) clock #[] clock) (.at w.heap.size 0 0) ⟨fun _ => Iff.rfl, rfl, some i.blk, hnew _, i, Loc.le_set _ hn _ _ hloc, rfl⟩
      refine ⟨_, .pointer (some ⟨w.heap.size, 0, none⟩), _, _, ?_, ?_, r1, r2⟩
      · simp [Instr.range, run_underlying t1, hgo]
      · simp only [VR]; exact ⟨_, Loc.set_same .., rfl⟩
    · cases hv

theorem inN_iff {b : Nat} : ∀ {l : List Nat}, inN b l = l.contains b
  | [] => rfl
  | a :: l => by
    simp only [inN, nbeq, inN_iff (l := l), List.contains_cons]
    rw [Bool.eq_iff_iff]
    simp only [Bool.or_eq_true, decide_eq_true_eq, beq_iff_eq]
    exact or_congr ⟨Eq.symm, Eq.symm⟩ Iff.rfl

theorem unseen_MR {ι : Loc} {seen : List Nat} : ∀ {es : List (Int × AV × Nat)} {l : List MapEntry}, MR ι es l → MR ι (unseen seen es) (l.filter fun e => !seen.contains e.born)
  | [], l, h => by simp only [MR] at h; subst h; simp [unseen, MR]
  | (k, v, b) :: es, l, h => by
    simp only [MR] at h
    obtain ⟨e, rest, rfl, h1, h2, h3, h4⟩ := h
    simp only [unseen, inN_iff, List.filter_cons, h3]
    cases hb : seen.contains b with
    | true => simpa using unseen_MR h4
    | false =>
      simp only [cond_false, Bool.not_false, if_true, MR]
      exact ⟨e, _, rfl, h1, h2, h3, unseen_MR h4⟩

theorem allNew_MR {ι : Loc} {last : Nat} : ∀ {es : List (Int × AV × Nat)} {l : List MapEntry}, MR ι es l → allNew last es = l.all fun e => decide (e.born ≥ last)
  | [], l, h => by simp only [MR] at h; subst h; rfl
  | (k, v, b) :: es, l, h => by
    simp only [MR] at h
    obtain ⟨e, rest, rfl, h1, h2, h3, h4⟩ := h
    simp only [allNew, nble, List.all_cons, h3, allNew_MR h4]

theorem MR.isEmpty {ι : Loc} : ∀ {es : List (Int × AV × Nat)} {l : List MapEntry}, MR ι es l → es.isEmpty = l.isEmpty
  | [], l, h => by simp only [MR] at h; subst h; rfl
  | (k, v, b) :: es, l, h => by
    simp only [MR] at h
    obtain ⟨e, rest, rfl, _⟩ := h
    rfl

theorem next_sound {ι : Loc} {F : Foot} {h h' : Heap X} {w : World} (r : Rel P R ι F h w) {x v : AV} {xv : Value} (ty : TypeId) (hv : evNext h x = some (v, h')) (hx : VR ι x xv) :
    ∃ w' u, (Instr.next xv false ty).run P w = .ok u w' ∧ VR ι v u ∧ Rel P R ι F h' w' ∧ Ev ι F h w ι F h' w' := by
  have over : VR ι (.tup [.bool false]) (.tuple #[.bool false]) := by
    simp only [VR]; exact ⟨[.bool false], rfl, VRs.cons (by simp only [VR]) VRs.nil⟩
  cases x <;> first | (simp only [evNext] at hv; cases hv; done) | skip
  rename_i l o
  cases o with
  | succ o => simp only [evNext] at hv; cases hv
  | zero =>
  simp only [evNext] at hv
  split at hv
  · rename_i since seen stepped hg
    simp only [Option.some.injEq, Prod.mk.injEq] at hv
    obtain ⟨rfl, rfl⟩ := hv
    simp only [VR] at hx
    obtain ⟨i, hi, rfl⟩ := hx
    obtain ⟨j, hj, ho⟩ := r.obj l _ hg
    rw [hi] at hj
    cases hj
    obtain ⟨_, hbase, m', h1, rfl⟩ := ho
    have g1 := run_getObj (P := P) h1 (by simp)
    exact ⟨w, _, by simp [Instr.next, hbase, g1], over, r, Ev.refl ..⟩
  · rename_i m since seen last hg
    split at hv
    · rename_i es clock hm
      simp only [VR] at hx
      obtain ⟨i, hi, rfl⟩ := hx
      obtain ⟨j, hj, ho⟩ := r.obj l _ hg
      rw [hi] at hj
      cases hj
      obtain ⟨hF, hbase, m', h1, jm, hjm, rfl⟩ := ho
      obtain ⟨_, ents, h2, h3⟩ := rel_map r hm hjm
      have g1 := run_getObj (P := P) h1 (by simp)
      have g2 := run_getObj (P := P) h2 (by simp)
      cases hb : (!seen.isEmpty && !es.isEmpty && allNew last es) with
      | true => simp [hb] at hv
      | false =>
        simp only [hb, cond_false] at hv
        rw [allNew_MR h3, h3.isEmpty] at hb
        have hl := unseen_MR (seen := seen) h3
        have hb' : (!(⟨seen⟩ : Array Nat).isEmpty && !ents.isEmpty && ents.all fun e => decide (e.born ≥ last)) = false := by
          rw [← hb]
          congr 1
          · simp
          · simp
        have hleft : ∀ l, (ents.toList.filter fun e => !seen.contains e.born) = l → (ents.filter fun e => !(⟨seen⟩ : Array Nat).contains e.born) = l.toArray := fun l hl => by
          apply Array.ext'
          simp only [Array.toList_filter]
          rw [← hl]
          congr 1
          funext e
          simp
        split at hv
        · rename_i hun
          simp only [Option.some.injEq, Prod.mk.injEq] at hv
          obtain ⟨rfl, rfl⟩ := hv
          rw [hun] at hl
          simp only [MR] at hl
          have := hleft _ hl
          refine ⟨w, _, ?_, over, r, Ev.refl ..⟩
          simp only [Instr.next, hbase, Nat.add_zero, Sem.run_bind, g1, g2, Result.andThen_ok, hb', this]
          simp [Question.forced]
        · rename_i k x b hun
          rw [blt_iff] at hv
          by_cases hbs : b < since
          · simp only [hbs, decide_true, cond_true, Option.some.injEq, Prod.mk.injEq] at hv
            obtain ⟨rfl, rfl⟩ := hv
            rw [hun] at hl
            simp only [MR] at hl
            obtain ⟨e, rest, hlist, k1, k2, k3, rfl⟩ := hl
            have := hleft _ hlist
            have hold : e.born < since := by omega
            have hnew : ¬ since ≤ e.born := by omega
            have hso := run_setObj (P := P) (.mapIter (some jm.blk) since (seen ++ [e.born]).toArray clock) h1 (by simp)
            refine ⟨{ w with heap := w.heap.setIfInBounds i.blk (.mapIter (some jm.blk) since (seen ++ [e.born]).toArray clock) }, .tuple #[.bool true, e.key, e.val], ?_, ?_, ?_⟩
            · simp only [Instr.next, hbase, Nat.add_zero, Sem.run_bind, g1, g2, Result.andThen_ok, hb', this]
              simp [Question.forced, hold, hnew]
              rw [hso]
              rfl
            · simp only [VR]
              exact ⟨[.bool true, e.key, e.val], rfl, VRs.cons (by simp only [VR]) (VRs.cons (by simp only [VR]; exact k1) (VRs.cons k2 VRs.nil))⟩
            · refine rel_upd r _ hg hi (by simp) (fun b' hb'' => ?_) ⟨hF, hbase, some jm.blk, ?_, jm, hjm, rfl⟩
              · have : b' ≠ i.blk := fun e => hb'' ((hF b').2 e)
                simp [Ne.symm this]
              · have := (Array.getElem?_eq_some_iff.1 h1).1
                simp [this, k3]
          · simp [hbs] at hv
        · cases hv
    · cases hv
  · cases hv

end Go.Ev
