import Derived.Test.YtddcnopjjihmcaaGreatEv7
import Derived.Laws.BytesString
import Derived.Lib.UnsafeStr
set_option linter.unusedSectionVars false
set_option linter.unusedVariables false
set_option linter.unusedSimpArgs false
namespace Go.Ev
variable {X : Type} [T : SymT] [V : SymV] {P : Program} {R : XRel X}

theorem rel_cells {ι : Loc} {F : Foot} {h : Heap X} {w : World} (r : Rel P R ι F h w) {l : Pos} {e : Nat} {cs : List AV} {f : Bool} {i : LocI} (hl : h.m.get l = some (.cells e cs f)) (hi : ι l = some i) :
    (∀ b, F l b ↔ b = i.blk) ∧ ∃ arr fz pre vs post, w.heap[i.blk]? = some (.cells arr e fz) ∧ arr.toList = pre ++ vs ++ post ∧ pre.length = i.base ∧
      VRs ι cs vs ∧ (∀ n, szOf P e = some n → i.base + i.cap * n ≤ arr.size) ∧ (f = false → ∀ j, j < arr.size → ¬(fz.1 ≤ j ∧ j < fz.2)) ∧ (∀ n, szOf P e = some n → ∃ k, i.base = k * n) := by
  obtain ⟨j, hj, ho⟩ := r.obj l _ hl
  rw [hi] at hj
  cases hj
  exact ho

theorem rel_map {ι : Loc} {F : Foot} {h : Heap X} {w : World} (r : Rel P R ι F h w) {l : Pos} {es : List (Int × AV × Nat)} {clock : Nat} {i : LocI} (hl : h.m.get l = some (.map es clock)) (hi : ι l = some i) :
    (∀ b, F l b ↔ b = i.blk) ∧ ∃ ents, w.heap[i.blk]? = some (.map ents clock) ∧ MR ι es ents.toList := by
  obtain ⟨j, hj, ho⟩ := r.obj l _ hl
  rw [hi] at hj
  cases hj
  exact ho

/-- cells read -/
theorem ld_row {ι : Loc} {F : Foot} {h : Heap X} {w : World} (r : Rel P R ι F h w) {l : Pos} {o n : Nat} {i : LocI} {cs : List AV} (hl : ldN h l o n = some cs) (hi : ι l = some i) :
    ∃ vs, (loadCells ⟨i.blk, i.base + o, none⟩ n).run P w = .ok ⟨vs⟩ w ∧ VRs ι cs vs := by
  unfold ldN at hl
  split at hl
  · rename_i e all f hg
    obtain ⟨_, arr, fz, pre, vs, post, h1, h2, h3, h4, _, _⟩ := rel_cells r hg hi
    obtain ⟨c1, c2⟩ := cut_VRs hl h4
    refine ⟨_, ?_, c1⟩
    have hlen : ((vs.drop o).take n).length = n := by simp; omega
    have := run_loadRow (P := P) h1 (i.base + o) ((vs.drop o).take n) (fun j v hj => by
      have hjn : j < n := by
        have := (List.getElem?_eq_some_iff.1 hj).1
        omega
      rw [List.getElem?_take_of_lt hjn, List.getElem?_drop] at hj
      rw [← Array.getElem?_toList, h2, List.append_assoc, List.getElem?_append_right (by omega), h3]
      rw [show i.base + o + j - i.base = o + j by omega, List.getElem?_append_left (by omega)]
      exact hj)
    rw [hlen] at this
    exact this
  · cases hl

theorem ld_cell {ι : Loc} {F : Foot} {h : Heap X} {w : World} (r : Rel P R ι F h w) {l : Pos} {o : Nat} {i : LocI} {e : Nat} {cs : List AV} {f : Bool} {v : AV} (hl : h.m.get l = some (.cells e cs f)) (hi : ι l = some i) (hv : nth o cs = some v) :
    ∃ u, w.cell? ⟨i.blk, i.base + o, none⟩ = some u ∧ VR ι v u := by
  obtain ⟨_, arr, fz, pre, vs, post, h1, h2, h3, h4, _, _⟩ := rel_cells r hl hi
  obtain ⟨u, hu, hr⟩ := h4.get hv
  refine ⟨u, ?_, hr⟩
  rw [cell_of h1, ← Array.getElem?_toList, h2, List.append_assoc, List.getElem?_append_right (by omega), h3]
  have := (List.getElem?_eq_some_iff.1 hu).1
  rw [show i.base + o - i.base = o by omega, List.getElem?_append_left (by omega)]
  exact hu

/-! ### maps -/
theorem mfind_sound {ι : Loc} {k : Int} : ∀ {es : List (Int × AV × Nat)} {l : List MapEntry} (n : Nat), MR ι es l →
    match mfind k es with
    | some v => ∃ j u, Instr.findNow (.int .i64) (.int .i64 k) l n = some (some (j, u)) ∧ VR ι v u
    | none => Instr.findNow (.int .i64) (.int .i64 k) l n = some none
  | [], _, n, h => by
    simp only [MR] at h
    subst h
    simp [mfind, Instr.findNow]
  | (k', v, b) :: es, _, n, h => by
    simp only [MR] at h
    obtain ⟨e, rest, rfl, h1, h2, h3, h4⟩ := h
    simp only [mfind, ieq_eq]
    have ih := mfind_sound (k := k) (n + 1) h4
    cases hb : (k == k') with
    | true =>
      simp only [cond_true]
      exact ⟨n, e.val, by simp [Instr.findNow, Instr.sameNow, h1, hb], h2⟩
    | false =>
      simp only [cond_false]
      have hs : Instr.findNow (.int .i64) (.int .i64 k) (e :: rest) n = Instr.findNow (.int .i64) (.int .i64 k) rest (n + 1) := by
        simp [Instr.findNow, Instr.sameNow, h1, hb]
      rw [hs]
      exact ih

theorem findKey_run {kt : TypeId} {l : List MapEntry} {k : Int} {r : Option (Nat × Value)} (hk : P.underlying kt = some (.int .i64)) (h : Instr.findNow (.int .i64) (.int .i64 k) l 0 = some r) (w : World) :
    (Instr.findKey kt (.int .i64 k) l).run P w = .ok r w := by
  simp [Instr.findKey, run_underlying hk, h]

theorem checkKey_run {kt : TypeId} {k : Int} (hk : P.underlying kt = some (.int .i64)) (b : Bool) (d : Nat) (w : World) : (Instr.checkKey b (d + 1) kt (.int .i64 k)).run P w = .ok () w := by
  simp [Instr.checkKey, run_underlying hk]

theorem mapT_spec {t e : TypeId} (h : mapT P t = some e) : ∃ k, P.underlying t = some (.map k e) ∧ P.underlying k = some (.int .i64) := by
  unfold mapT at h
  split at h
  · rename_i k e' ht
    split at h
    · rename_i hk
      simp only [Option.some.injEq] at h
      subst h
      exact ⟨k, ht, hk⟩
    · cases h
  · cases h

/-! #### loose maps -/
theorem findNow_some {k : Int} : ∀ {l : List MapEntry} (n : Nat), (∀ e ∈ l, ∃ m, e.key = .int .i64 m) → (∃ e ∈ l, e.key = .int .i64 k) →
    ∃ j e, Instr.findNow (.int .i64) (.int .i64 k) l n = some (some (n + j, e.val)) ∧ l[j]? = some e ∧ e.key = .int .i64 k
  | [], n, _, h => by obtain ⟨e, he, _⟩ := h; cases he
  | e :: l, n, hk, h => by
    obtain ⟨m, hm⟩ := hk e (List.mem_cons_self ..)
    cases hb : (k == m) with
    | true =>
      have : k = m := by simpa using hb
      subst this
      exact ⟨0, e, by simp [Instr.findNow, Instr.sameNow, hm], rfl, hm⟩
    | false =>
      have hs : Instr.findNow (.int .i64) (.int .i64 k) (e :: l) n = Instr.findNow (.int .i64) (.int .i64 k) l (n + 1) := by
        simp [Instr.findNow, Instr.sameNow, hm, hb]
      obtain ⟨e', he', hke⟩ := h
      have hin : e' ∈ l := by
        rcases List.mem_cons.1 he' with rfl | h
        · rw [hm] at hke; cases hke; simp at hb
        · exact h
      obtain ⟨j, e'', g1, g2, g3⟩ := findNow_some (n + 1) (fun e he => hk e (List.mem_cons_of_mem _ he)) ⟨e', hin, hke⟩
      refine ⟨j + 1, e'', ?_, by simpa using g2, g3⟩
      rw [hs, g1]
      congr 3
      omega

theorem findNow_none {k : Int} : ∀ {l : List MapEntry} (n : Nat), (∀ e ∈ l, ∃ m, e.key = .int .i64 m) → (∀ e ∈ l, e.key ≠ .int .i64 k) → Instr.findNow (.int .i64) (.int .i64 k) l n = some none
  | [], n, _, _ => by simp [Instr.findNow]
  | e :: l, n, hk, h => by
    obtain ⟨m, hm⟩ := hk e (List.mem_cons_self ..)
    have hne : ¬ k = m := fun e' => h e (List.mem_cons_self ..) (by rw [hm, e'])
    have ih := findNow_none (k := k) (n + 1) (fun e he => hk e (List.mem_cons_of_mem _ he)) (fun e he => h e (List.mem_cons_of_mem _ he))
    have hb : (k == m) = false := by simpa using hne
    simp [Instr.findNow, Instr.sameNow, hm, hb, ih]

theorem lfind_mem {k : Int} : ∀ {es : List (Int × AV × Option Nat)} {v : AV} {b : Option Nat}, lfind k es = some (v, b) → (k, v, b) ∈ es
  | [], v, b, h => by simp [lfind] at h
  | (k', v', b') :: es, v, b, h => by
    simp only [lfind, ieq_eq] at h
    cases hb : (k == k') with
    | true =>
      have : k = k' := by simpa using hb
      subst this
      simp only [hb, cond_true, Option.some.injEq, Prod.mk.injEq] at h
      obtain ⟨rfl, rfl⟩ := h
      exact List.mem_cons_self ..
    | false =>
      simp only [hb, cond_false] at h
      exact List.mem_cons_of_mem _ (lfind_mem h)

theorem lfind_none {k : Int} : ∀ {es : List (Int × AV × Option Nat)}, lfind k es = none → ∀ v b, (k, v, b) ∉ es
  | [], _, v, b, h => by cases h
  | (k', v', b') :: es, h, v, b, hm => by
    simp only [lfind, ieq_eq] at h
    cases hb : (k == k') with
    | true => simp [hb] at h
    | false =>
      simp only [hb, cond_false] at h
      rcases List.mem_cons.1 hm with e | hm
      · cases e; simp at hb
      · exact lfind_none h v b hm

theorem keys_uniq {k : Int} : ∀ {es : List (Int × AV × Option Nat)}, (es.map (·.1)).Nodup → ∀ {v v' b b'}, (k, v, b) ∈ es → (k, v', b') ∈ es → v = v' ∧ b = b'
  | [], _, v, v', b, b', h, _ => by cases h
  | x :: es, hn, v, v', b, b', h, h' => by
    simp only [List.map_cons, List.nodup_cons, List.mem_map, not_exists, not_and] at hn
    rcases List.mem_cons.1 h with e | g <;> rcases List.mem_cons.1 h' with e' | g'
    · rw [← e] at e'; cases e'; exact ⟨rfl, rfl⟩
    · subst e; exact (hn.1 _ g' rfl).elim
    · subst e'; exact (hn.1 _ g rfl).elim
    · exact keys_uniq hn.2 g g'

theorem LR.ints {ι : Loc} {i : LocI} {es : List (Int × AV × Option Nat)} {l : List MapEntry} {clock : Nat} (h : LR ι i es l clock) : ∀ e ∈ l, ∃ m, e.key = .int .i64 m := fun e he => by
  obtain ⟨k, v, b, _, g⟩ := h.bwd e he
  exact ⟨k, g.1⟩

theorem LR.of {ι : Loc} {i : LocI} {es : List (Int × AV × Option Nat)} {l : List MapEntry} {clock : Nat} (h : LR ι i es l clock) {e : MapEntry} (he : e ∈ l) {k : Int} (hk : e.key = .int .i64 k) : ∃ v b, (k, v, b) ∈ es ∧ LE ι i k v b e := by
  obtain ⟨k', v, b, g1, g2⟩ := h.bwd e he
  have := g2.1
  rw [hk] at this
  cases this
  exact ⟨v, b, g1, g2⟩

theorem LR.find {ι : Loc} {i : LocI} {es : List (Int × AV × Option Nat)} {l : List MapEntry} {clock : Nat} (h : LR ι i es l clock) {k : Int} {v : AV} {b : Option Nat} (hf : lfind k es = some (v, b)) :
    ∃ j e, Instr.findNow (.int .i64) (.int .i64 k) l 0 = some (some (j, e.val)) ∧ l[j]? = some e ∧ LE ι i k v b e := by
  obtain ⟨e, g1, g2⟩ := h.fwd _ _ _ (lfind_mem hf)
  obtain ⟨j, e', f1, f2, f3⟩ := findNow_some 0 h.ints ⟨e, g1, g2.1⟩
  simp only [Nat.zero_add] at f1
  obtain ⟨v', b', m1, m2⟩ := h.of (List.mem_of_getElem? f2) f3
  obtain ⟨rfl, rfl⟩ := keys_uniq h.keys m1 (lfind_mem hf)
  exact ⟨j, e', f1, f2, m2⟩

theorem LR.absent {ι : Loc} {i : LocI} {es : List (Int × AV × Option Nat)} {l : List MapEntry} {clock : Nat} (h : LR ι i es l clock) {k : Int} (hf : lfind k es = none) : Instr.findNow (.int .i64) (.int .i64 k) l 0 = some none :=
  findNow_none 0 h.ints fun e he hk => by
    obtain ⟨v, b, g, _⟩ := h.of he hk
    exact lfind_none hf v b g

theorem rel_lmap {ι : Loc} {F : Foot} {h : Heap X} {w : World} (r : Rel P R ι F h w) {l : Pos} {es : List (Int × AV × Option Nat)} {clock : Nat} {i : LocI} (hl : h.m.get l = some (.lmap es clock)) (hi : ι l = some i) :
    (∀ b, F l b ↔ b = i.blk) ∧ ∃ ents, w.heap[i.blk]? = some (.map ents clock) ∧ LR ι i es ents.toList clock := by
  obtain ⟨j, hj, ho⟩ := r.obj l _ hl
  rw [hi] at hj
  cases hj
  exact ho

/-- what is found in a map -/
theorem findM_sound {ι : Loc} {F : Foot} {h : Heap X} {w : World} (r : Rel P R ι F h w) {m : AV} {mv : Value} {k : Int} {x : Option AV} (hm : h.findM k m = some x) (hv : VR ι m mv) :
    ∃ l : List MapEntry, ((mv = .map none ∧ l = []) ∨ (∃ b ents clock, mv = .map (some b) ∧ w.heap[b]? = some (.map ents clock) ∧ l = ents.toList)) ∧
      (∀ v, x = some v → ∃ j u, Instr.findNow (.int .i64) (.int .i64 k) l 0 = some (some (j, u)) ∧ VR ι v u) ∧ (x = none → Instr.findNow (.int .i64) (.int .i64 k) l 0 = some none) := by
  cases m <;> first | (simp only [Heap.findM] at hm; cases hm; done) | skip
  · simp only [Heap.findM, Option.some.injEq] at hm
    subst hm
    simp only [VR] at hv
    exact ⟨[], .inl ⟨hv, rfl⟩, fun v h => (by cases h), fun _ => by simp [Instr.findNow]⟩
  · rename_i l
    simp only [Heap.findM] at hm
    simp only [VR] at hv
    obtain ⟨i, hi, rfl⟩ := hv
    split at hm
    · rename_i es clock hg
      simp only [Option.some.injEq] at hm
      subst hm
      obtain ⟨_, ents, h1, h2⟩ := rel_map r hg hi
      have := mfind_sound (k := k) 0 h2
      refine ⟨ents.toList, .inr ⟨_, ents, clock, rfl, h1, rfl⟩, fun v hf => ?_, fun hf => ?_⟩
      · rw [hf] at this; exact this
      · rw [hf] at this; exact this
    · rename_i es clock hg
      simp only [Option.some.injEq] at hm
      subst hm
      obtain ⟨_, ents, h1, h2⟩ := rel_lmap r hg hi
      refine ⟨ents.toList, .inr ⟨_, ents, clock, rfl, h1, rfl⟩, fun v hf => ?_, fun hf => ?_⟩
      · simp only [Option.map_eq_some_iff] at hf
        obtain ⟨⟨v', b⟩, hf, rfl⟩ := hf
        obtain ⟨j, e, g1, g2, g3⟩ := h2.find hf
        exact ⟨j, e.val, g1, g3.2.1⟩
      · simp only [Option.map_eq_none_iff] at hf
        exact h2.absent hf
    · cases hm

theorem run_getObj {w : World} {b : Nat} {o : Obj} (h : w.heap[b]? = some o) (hc : ∀ c e f, o ≠ .cells c e f) : (getObj b).run P w = .ok o w := by
  simp only [getObj, Sem.run, h]
  try (cases o <;> first | rfl | exact absurd rfl (hc _ _ _))

theorem run_setObj {w : World} {b : Nat} {o : Obj} (o' : Obj) (h : w.heap[b]? = some o) (hc : ∀ c e f, o ≠ .cells c e f) : (setObj b o').run P w = .ok () { w with heap := w.heap.setIfInBounds b o' } := by
  simp only [setObj, Sem.run, h]
  try (cases o <;> first | rfl | exact absurd rfl (hc _ _ _))

theorem look_sound {ι : Loc} {F : Foot} {h : Heap X} {w : World} (r : Rel P R ι F h w) {t e : TypeId} {zero m k v : AV} {mv kv zv : Value} {ok : Bool} {it : TypeInfo} (hv : evLook h zero ok m k = some v) (hm : VR ι m mv) (hk : VR ι k kv)
    (ht : mapT P t = some e) (hi : P.info? e = some it) (hz : it.zero = some zv) (hcv : cVal zv = some zero) :
    ∃ u, (Instr.lookup t mv kv ok).run P w = .ok u w ∧ VR ι v u := by
  obtain ⟨kt, h1, h2⟩ := mapT_spec ht
  cases k <;> first | (simp only [evLook] at hv; cases hv; done) | skip
  rename_i kk n
  cases kk <;> first | (simp only [evLook] at hv; cases hv; done) | skip
  simp only [evLook] at hv
  simp only [VR] at hk
  subst hk
  have zr : (zeroValue e).run P w = .ok zv w := by simp [zeroValue, typeInfo, hi, hz]
  have zv' := cVal_sound ι hcv
  have tup : ∀ {x : AV} {u : Value} {b : Bool}, VR ι x u → VR ι (.tup [x, .bool b]) (.tuple #[u, .bool b]) := fun {x u b} hx => by
    simp only [VR]
    exact ⟨[u, .bool b], rfl, VRs.cons hx (VRs.cons (by simp only [VR]) VRs.nil)⟩
  split at hv
  · rename_i vv hfm
    simp only [Option.some.injEq] at hv
    subst hv
    obtain ⟨l, hl, hfs, _⟩ := findM_sound r hfm hm
    obtain ⟨j, u, hf, hr⟩ := hfs _ rfl
    have hf' := findKey_run (P := P) h2 hf w
    rcases hl with ⟨rfl, rfl⟩ | ⟨b, ents, clock, rfl, hb, rfl⟩
    · cases ok
      · exact ⟨u, by simp [Instr.lookup, run_underlying h1, checkKey_run h2, hf'], hr⟩
      · exact ⟨.tuple #[u, .bool true], by simp [Instr.lookup, run_underlying h1, checkKey_run h2, hf'], tup hr⟩
    · have hg := run_getObj (P := P) hb (by simp)
      cases ok
      · exact ⟨u, by simp [Instr.lookup, run_underlying h1, hg, checkKey_run h2, hf'], hr⟩
      · exact ⟨.tuple #[u, .bool true], by simp [Instr.lookup, run_underlying h1, hg, checkKey_run h2, hf'], tup hr⟩
  · rename_i hfm
    simp only [Option.some.injEq] at hv
    subst hv
    obtain ⟨l, hl, _, hf⟩ := findM_sound r hfm hm
    replace hf := hf rfl
    have hf' := findKey_run (P := P) h2 hf w
    rcases hl with ⟨rfl, rfl⟩ | ⟨b, ents, clock, rfl, hb, rfl⟩
    · cases ok
      · exact ⟨zv, by simp [Instr.lookup, run_underlying h1, checkKey_run h2, hf', zr], zv'⟩
      · exact ⟨.tuple #[zv, .bool false], by simp [Instr.lookup, run_underlying h1, checkKey_run h2, hf', zr], tup zv'⟩
    · have hg := run_getObj (P := P) hb (by simp)
      cases ok
      · exact ⟨zv, by simp [Instr.lookup, run_underlying h1, hg, checkKey_run h2, hf', zr], zv'⟩
      · exact ⟨.tuple #[zv, .bool false], by simp [Instr.lookup, run_underlying h1, hg, checkKey_run h2, hf', zr], tup zv'⟩
  · cases hv

/-! ### bytes -/
theorem bytesOf_sound {ι : Loc} : ∀ {cs : List AV} {s : List Nat} {vs : List Value}, bytesOf cs = some s → VRs ι cs vs → vs = (s.map bvN).map (fun n => Value.int .u8 (Int.ofNat n)) ∧ (∀ b ∈ s.map bvN, b < 256) ∧ BOk s
  | [], s, vs, h, hv => by
    simp only [bytesOf, Option.some.injEq] at h
    subst h
    exact ⟨VRs.nil_inv hv, fun _ h => (by cases h), fun _ h => (by cases h)⟩
  | c :: cs, s, vs, h, hv => by
    cases c <;> first | (simp only [bytesOf] at h; cases h; done) | skip
    · rename_i k n
      cases k <;> first | (simp only [bytesOf] at h; cases h; done) | skip
      cases n <;> first | (simp only [bytesOf] at h; cases h; done) | skip
      rename_i b
      simp only [bytesOf, blt_iff] at h
      by_cases hb : b < 256
      · simp only [hb, decide_true, cond_true] at h
        split at h
        · rename_i r hr
          simp only [Option.some.injEq] at h
          subst h
          obtain ⟨v, us, rfl, h1, h2⟩ := VRs.cons_inv hv
          obtain ⟨h3, h4, h5⟩ := bytesOf_sound hr h2
          simp only [VR] at h1
          have hbv : bvN b = b := by simp [bvN, hb]
          refine ⟨by rw [h1, h3, List.map_cons, List.map_cons, hbv], fun x hx => ?_, fun x hx hlt => ?_⟩
          · rw [List.map_cons, hbv] at hx
            rcases List.mem_cons.1 hx with rfl | hx
            · exact hb
            · exact h4 x hx
          · rcases List.mem_cons.1 hx with rfl | hx
            · omega
            · exact h5 x hx hlt
        · cases h
      · simp [hb] at h
    · rename_i k j c
      cases k <;> first | (simp only [bytesOf] at h; cases h; done) | skip
      simp only [bytesOf] at h
      cases hc : ieq c 0 && ile 0 (T.lo j) && ile (T.hi j) 255 with
      | false => simp [hc] at h
      | true =>
        simp only [hc, cond_true] at h
        simp only [Bool.and_eq_true, ieq_eq, beq_iff_eq, ile_eq, decide_eq_true_eq] at hc
        obtain ⟨⟨rfl, hlo⟩, hhi⟩ := hc
        have l := V.lo j
        have u := V.hi j
        split at h
        · rename_i r hr
          simp only [Option.some.injEq] at h
          subst h
          obtain ⟨v, us, rfl, h1, h2⟩ := VRs.cons_inv hv
          obtain ⟨h3, h4, h5⟩ := bytesOf_sound hr h2
          simp only [VR] at h1
          have hbv : bvN (256 + j) = (V.val j).toNat := by
            rw [bvN, if_neg (by omega), Nat.add_sub_cancel_left]
          refine ⟨?_, fun x hx => ?_, fun x hx hlt => ?_⟩
          · rw [h1, h3, List.map_cons, List.map_cons, hbv]
            congr 2
            simp only [Int.ofNat_eq_natCast]
            omega
          · rw [List.map_cons, hbv] at hx
            rcases List.mem_cons.1 hx with rfl | hx
            · omega
            · exact h4 x hx
          · rcases List.mem_cons.1 hx with rfl | hx
            · rw [Nat.add_sub_cancel_left]; omega
            · exact h5 x hx hlt
        · cases h

theorem foldl_push (s : List Nat) (acc : ByteArray) : (s.map Int.ofNat).foldl (fun r n => r.push (UInt8.ofNat n.toNat)) acc = ⟨acc.data ++ (s.map UInt8.ofNat).toArray⟩ := by
  induction s generalizing acc with
  | nil => simp
  | cons b s ih =>
    simp only [List.map_cons, List.foldl_cons]
    rw [ih]
    apply ByteArray.ext
    simp [ByteArray.push]

theorem bytes_back {s : List Nat} (h : ∀ b ∈ s, b < 256) : (s.map UInt8.ofNat).map (·.toNat) = s := by
  rw [List.map_map]
  conv => rhs; rw [← List.map_id s]
  apply List.map_congr_left
  intro b hb
  simp only [Function.comp, id]
  have := h b hb
  show (UInt8.ofNat b).toNat = b
  simp [UInt8.toNat_ofNat', Nat.mod_eq_of_lt this]

theorem b2s_sound {ι : Loc} {F : Foot} {h : Heap X} {w : World} (r : Rel P R ι F h w) {x v : AV} {xv : Value} (hv : evB2s h x = some v) (hx : VR ι x xv) :
    ∃ u, (Conv.bytesToString xv).run P w = .ok u w ∧ VR ι v u := by
  cases x <;> first | (simp only [evB2s] at hv; cases hv; done) | skip
  · simp only [evB2s, Option.some.injEq] at hv
    subst hv
    simp only [VR] at hx
    subst hx
    exact ⟨.string .empty, by simp [Conv.bytesToString], by simp only [VR]; exact ⟨_, rfl, rfl, fun _ h => (by cases h)⟩⟩
  · rename_i l o n c
    simp only [evB2s] at hv
    split at hv
    · rename_i cs hcs
      split at hv
      · rename_i s hs
        simp only [Option.some.injEq] at hv
        subst hv
        simp only [VR] at hx
        obtain ⟨i, hi, cap, rfl, _⟩ := hx
        obtain ⟨vs, h1, h2⟩ := ld_row r hcs hi
        obtain ⟨h3, h4, h5⟩ := bytesOf_sound hs h2
        subst h3
        generalize hsb : s.map bvN = sb at h1 h4
        refine ⟨_, run_bytesToString w _ n cap (sb.map Int.ofNat) (by rw [h1]; simp), ?_⟩
        rw [foldl_push]
        simp only [VR]
        refine ⟨_, rfl, ?_, h5⟩
        rw [hsb]
        simpa using bytes_back h4
      · cases hv
    · cases hv

theorem sdata_sound {ι : Loc} {h : Heap X} {x v : AV} {xv : Value} (hv : evSdata h x = some v) (hx : VR ι x xv) (ts : Array TypeId) (ty : TypeId) (w : World) :
    ∃ u, (Builtin.unsafeSliceData_ ts ty #[xv]).run P w = .ok u w ∧ VR ι v u := by
  cases x <;> first | (simp only [evSdata] at hv; cases hv; done) | skip
  · simp only [evSdata, Option.some.injEq] at hv
    subst hv
    simp only [VR] at hx
    subst hx
    exact ⟨_, rfl, by simp only [VR]⟩
  · rename_i l o n c
    simp only [evSdata, blt_iff] at hv
    by_cases hc : 0 < c.least n
    · simp only [hc, decide_true, cond_true, Option.some.injEq] at hv
      subst hv
      simp only [VR] at hx
      obtain ⟨i, hi, cap, rfl, hcap, hn⟩ := hx
      have : cap ≠ 0 := by
        cases c <;> simp only [Cap.least, capR] at hc hcap <;> omega
      exact ⟨_, Lib.run_unsafeSliceData_row w ts ty _ n cap this, by simp only [VR]; exact ⟨i, hi, rfl⟩⟩
    · simp [hc] at hv

theorem shape_of {w : World} {b : Nat} {arr : Array Value} {e : TypeId} {fz : Nat × Nat} (h : w.heap[b]? = some (.cells arr e fz)) : w.shape? b = some (e, arr.size) := by
  simp [World.shape?, h]

theorem p2u_sound {ι : Loc} {F : Foot} {h : Heap X} {w : World} (r : Rel P R ι F h w) {x v : AV} {xv : Value} {s d t : TypeId} {n : Nat} (hv : evP2u h x = some v) (hx : VR ι x xv)
    (hs : P.underlying s = some (.pointer t)) (hd : P.underlying d = some .unsafePointer) (hn : szOf P t = some (n + 1)) : ∃ u, (convert s d xv).run P w = .ok u w ∧ VR ι v u := by
  cases x <;> first | (simp only [evP2u] at hv; cases hv; done) | skip
  · simp only [evP2u, Option.some.injEq] at hv
    subst hv
    simp only [VR] at hx
    subst hx
    exact ⟨.pointer none, by simp [convert, run_underlying hs, run_underlying hd, Conv.unsafePointer], by simp only [VR]⟩
  · rename_i l o
    simp only [evP2u] at hv
    split at hv
    · rename_i e cs f hg
      rw [blt_iff] at hv
      by_cases ho : o < cs.length
      · simp only [ho, decide_true, cond_true, Option.some.injEq] at hv
        subst hv
        have hx' := hx
        simp only [VR] at hx
        obtain ⟨i, hi, rfl⟩ := hx
        obtain ⟨_, arr, fz, pre, vs, post, h1, h2, h3, h4, _⟩ := rel_cells r hg hi
        have hlen : i.base + o < arr.size := by
          have e1 := h4.length
          have e2 := congrArg List.length h2
          simp at e2
          omega
        refine ⟨_, ?_, hx'⟩
        have hview : (viewAt i.blk).run P w = .ok none w := by simp [viewAt, shape_of h1]
        have hle : ¬ arr.size ≤ i.base + o := by omega
        simp [convert, run_underlying hs, run_underlying hd, Conv.unsafePointer, Conv.seenAt, hview, cellsIn, shape_of h1, szOf_run hn, hle]
      · simp [ho] at hv
    · cases hv

end Go.Ev
