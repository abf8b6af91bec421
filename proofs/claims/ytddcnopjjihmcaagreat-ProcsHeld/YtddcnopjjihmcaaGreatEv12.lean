import Derived.Test.YtddcnopjjihmcaaGreatEv11
set_option linter.unusedSectionVars false
set_option linter.unusedVariables false
set_option linter.unusedSimpArgs false
namespace Go.Ev
variable {X : Type} [T : SymT] [V : SymV] {P : Program} {R : XRel X}

/-! ### copies, appends -/
theorem ld_cells {ι : Loc} {F : Foot} {h : Heap X} {w : World} (r : Rel P R ι F h w) {l : Pos} {o n : Nat} {i : LocI} {cs : List AV} (hl : ldN h l o n = some cs) (hi : ι l = some i) :
    ∃ vs, vs.length = n ∧ VRs ι cs vs ∧ ∀ w', w'.heap = w.heap → ∀ m, m ≤ n → (loadCells ⟨i.blk, i.base + o, none⟩ m).run P w' = .ok ⟨vs.take m⟩ w' := by
  unfold ldN at hl
  split at hl
  · rename_i e all f hg
    obtain ⟨_, arr, fz, pre, vs, post, h1, h2, h3, h4, _, _⟩ := rel_cells r hg hi
    obtain ⟨c1, c2⟩ := cut_VRs hl h4
    have hlen : ((vs.drop o).take n).length = n := by simp; omega
    refine ⟨_, hlen, c1, fun w' hw m hm => ?_⟩
    have h1' : w'.heap[i.blk]? = some (.cells arr e fz) := by rw [hw]; exact h1
    have hlm : (((vs.drop o).take n).take m).length = m := by rw [List.length_take, hlen]; omega
    have := run_loadRow (P := P) h1' (i.base + o) (((vs.drop o).take n).take m) (fun j v hj => by
      have hjm : j < m := by
        have := (List.getElem?_eq_some_iff.1 hj).1
        omega
      rw [List.getElem?_take_of_lt hjm, List.getElem?_take_of_lt (by omega), List.getElem?_drop] at hj
      rw [← Array.getElem?_toList, h2, List.append_assoc, List.getElem?_append_right (by omega), h3]
      rw [show i.base + o + j - i.base = o + j by omega, List.getElem?_append_left (by omega)]
      exact hj)
    rw [hlm] at this
    exact this
  · cases hl

/-- what is copied from -/
theorem srcOf_sound {ι : Loc} {F : Foot} {h : Heap X} {w : World} (r : Rel P R ι F h w) {esz n : Nat} {x : AV} {xv : Value} {cs : List AV} (hs : srcOf h esz x = some (n, cs)) (hx : VR ι x xv) :
    ∃ vs, (∀ w', (Builtin.lenOf xv).run P w' = .ok n w') ∧ (∀ w', w'.heap = w.heap → (Builtin.firstCells esz n xv).run P w' = .ok ⟨vs⟩ w') ∧ VRs ι cs vs ∧ vs.length = n * esz ∧
      (∀ m w', m ≤ n → w'.heap = w.heap → (Builtin.firstCells esz m xv).run P w' = .ok ⟨vs.take (m * esz)⟩ w') := by
  suffices h : ∃ vs, (∀ w', (Builtin.lenOf xv).run P w' = .ok n w') ∧ VRs ι cs vs ∧ vs.length = n * esz ∧
      (∀ m w', m ≤ n → w'.heap = w.heap → (Builtin.firstCells esz m xv).run P w' = .ok ⟨vs.take (m * esz)⟩ w') by
    obtain ⟨vs, h1, h2, h3, h4⟩ := h
    exact ⟨vs, h1, fun w' e => by have := h4 n w' (Nat.le_refl _) e; rwa [List.take_of_length_le (by omega)] at this, h2, h3, h4⟩
  cases x <;> first | (simp only [srcOf] at hs; cases hs; done) | skip
  · -- a string
    rename_i s
    simp only [srcOf, nbeq] at hs
    by_cases h1 : esz = 1
    · subst h1
      simp only [decide_true, cond_true, Option.some.injEq, Prod.mk.injEq] at hs
      obtain ⟨rfl, rfl⟩ := hs
      simp only [VR] at hx
      obtain ⟨bs, rfl, hbm, hok⟩ := hx
      have hl : bs.data.toList.length = bs.size := rfl
      have hlen := congrArg List.length hbm
      simp only [List.length_map, hl] at hlen
      refine ⟨bs.data.toList.map fun b => .int .u8 b.toNat, fun w' => by simp only [Builtin.lenOf, Sem.run_pure, hlen], ?_, by simp only [List.length_map]; omega, fun m w' hm _ => ?_⟩
      · exact bytesAV_sound hbm hok
      · rw [← hlen] at hm
        simp only [Builtin.firstCells, Sem.run_pure]
        congr 1
        apply Array.ext'
        simp only [Array.toList_map, ByteArray.data_extract, Array.toList_extract, List.extract_eq_take_drop, List.drop_zero, Nat.sub_zero, Nat.mul_one, List.map_take]
    · simp [h1] at hs
  · simp only [srcOf, Option.some.injEq, Prod.mk.injEq] at hs
    obtain ⟨rfl, rfl⟩ := hs
    simp only [VR] at hx
    subst hx
    exact ⟨[], fun _ => rfl, VRs.nil, by simp, fun m w' hm _ => by
      have : m = 0 := by omega
      subst this
      simp [Builtin.firstCells]⟩
  · rename_i l o k c
    simp only [srcOf] at hs
    split at hs
    · rename_i cs' hcs
      simp only [Option.some.injEq, Prod.mk.injEq] at hs
      obtain ⟨rfl, rfl⟩ := hs
      simp only [VR] at hx
      obtain ⟨i, hi, cap, rfl, _⟩ := hx
      obtain ⟨vs, g1, g2, g3⟩ := ld_cells r hcs hi
      exact ⟨vs, fun _ => rfl, g2, g1, fun m w' hm hw => g3 w' hw _ (Nat.mul_le_mul_right _ hm)⟩
    · cases hs
  · simp only [srcOf, Option.some.injEq, Prod.mk.injEq] at hs
    obtain ⟨rfl, rfl⟩ := hs
    simp only [VR] at hx
    obtain ⟨a, cap, rfl⟩ := hx
    exact ⟨[], fun _ => rfl, VRs.nil, by simp, fun m w' hm _ => by
      have : m = 0 := by omega
      subst this
      simp [Builtin.firstCells, loadCells, loadCellsFrom]⟩

theorem VRs.take {ι : Loc} : ∀ {a : List AV} {v : List Value} (_ : VRs ι a v) (n : Nat), VRs ι (a.take n) (v.take n)
  | [], _, h, n => by rw [VRs.nil_inv h]; simpa using VRs.nil
  | _ :: _, _, h, 0 => by simpa using VRs.nil
  | _ :: _, _, h, n + 1 => by
    obtain ⟨v, vs, rfl, h1, h2⟩ := VRs.cons_inv h
    simp only [List.take_succ_cons]
    exact VRs.cons h1 (VRs.take h2 n)

/-- an object dies -/
theorem rel_kill {ι : Loc} {F : Foot} {h : Heap X} {w : World} (r : Rel P R ι F h w) (l : Pos) : Rel P R ι F (h.kill l) w ∧ Ev ι F h w ι F (h.kill l) w := by
  have hget : ∀ {k x}, (h.kill l).m.get k = some x → h.m.get k = some x := fun {k x} hk => by
    by_cases e : k = l
    · subst e; rw [Heap.kill, PT.get_put_same] at hk; cases hk
    · rw [Heap.kill, PT.get_put_other _ _ _ _ e] at hk; exact hk
  refine ⟨⟨fun k x hk => r.obj k x (hget hk), fun k k' x x' b h1 h2 => r.disj k k' x x' b (hget h1) (hget h2), fun k hk => ⟨(r.fresh k hk).1, ?_⟩⟩, ⟨fun _ _ => rfl, Nat.le_refl _, Nat.le_refl _, fun _ _ _ => rfl, fun k x b hk hb => .inr ⟨k, x, hget hk, hb⟩, fun _ x _ hk => ⟨x, hget hk⟩, ⟨rfl, rfl⟩⟩⟩
  by_cases e : k = l
  · subst e; rw [Heap.kill, PT.get_put_same]
  · rw [Heap.kill, PT.get_put_other _ _ _ _ e]; exact (r.fresh k hk).2

theorem run_app_grow (w : World) {ts : Array TypeId} {t tx ty e : TypeId} {i : TypeInfo} {z : Value} (h0 : ts[0]? = some t) (h1 : ts[1]? = some tx) (ht : P.underlying t = some (.slice e)) (htx : (∃ e', P.underlying tx = some (.slice e')) ∨ P.underlying tx = some .string)
    (hi : P.info? e = some i) (hz : i.zero = some z) (base : Option Addr) (sLen sCap n : Nat) (x : Value) (olds news : List Value)
    (hold : (Builtin.firstCells i.size sLen (.slice base sLen sCap)).run P w.drew = .ok ⟨olds⟩ w.drew) (hlen : (Builtin.lenOf x).run P w = .ok n w) (hnew : (Builtin.firstCells i.size n x).run P w.drew = .ok ⟨news⟩ w.drew)
    (hg : sCap < sLen + n) (hfit : (sLen + n) * i.bytes ≤ 1048576) (hb : 0 < i.bytes) :
    ∃ cap, sLen + n ≤ cap ∧ (Builtin.append_ ts ty #[.slice base sLen sCap, x]).run P w = .ok (.slice (some ⟨w.heap.size, 0, none⟩) (sLen + n) cap)
        (w.drew.alloc (.cells ((olds ++ news).toArray ++ Builtin.zeroCells z.cells (cap - (sLen + n))) e)) := by
  have hn : ¬ (sLen + n ≤ sCap) := by omega
  have hle : sLen + n ≤ 1048576 := Nat.le_trans (Nat.le_mul_of_pos_right _ hb) hfit
  have h63' : ¬ (9223372036854775807 < ((sLen : Int) + (n : Int))) := by omega
  have h48 := growslice_fits (bytes := i.bytes) hg (by omega)
  have h48' : ¬ (281474976710656 < Builtin.nextslicecap (sLen + n) sCap * i.bytes) := by omega
  refine ⟨grownCap w (sLen + n) sCap e, appendCap_ge _ _ _ _, ?_⟩
  rcases htx with ⟨e', htx⟩ | htx <;>
    (simp [Builtin.append_, h0, h1, run_underlying ht, run_underlying htx, sizeOf, typeInfo, zeroValue, hi, hz, hlen, hn, h63', h48', Question.forced, hold, hnew, newRow, grownCap]
     try (congr 2; apply Array.ext'; simp [List.append_assoc]))

theorem run_app_room (w w' : World) {ts : Array TypeId} {t tx ty e : TypeId} {size : Nat} (h0 : ts[0]? = some t) (h1 : ts[1]? = some tx) (ht : P.underlying t = some (.slice e)) (htx : (∃ e', P.underlying tx = some (.slice e')) ∨ P.underlying tx = some .string)
    (hi : szOf P e = some size) (b o sLen sCap n : Nat) (x : Value) (news : List Value) (hlen : (Builtin.lenOf x).run P w = .ok n w) (hnew : (Builtin.firstCells size n x).run P w = .ok ⟨news⟩ w)
    (hg : sLen + n ≤ sCap) (hst : (storeCells ⟨b, o + sLen * size, none⟩ news).run P w = .ok () w') :
    (Builtin.append_ ts ty #[.slice (some ⟨b, o, none⟩) sLen sCap, x]).run P w = .ok (.slice (some ⟨b, o, none⟩) (sLen + n) sCap) w' := by
  rcases htx with ⟨e', htx⟩ | htx <;>
    (simp [Builtin.append_, h0, h1, run_underlying ht, run_underlying htx, szOf_run hi, hlen, hg, hnew, add_none, hst])

theorem run_app_nil (w : World) {ts : Array TypeId} {t tx ty e : TypeId} {size : Nat} (h0 : ts[0]? = some t) (h1 : ts[1]? = some tx) (ht : P.underlying t = some (.slice e)) (htx : (∃ e', P.underlying tx = some (.slice e')) ∨ P.underlying tx = some .string)
    (hi : szOf P e = some size) (x : Value) (news : Array Value) (hlen : (Builtin.lenOf x).run P w = .ok 0 w) (hnew : (Builtin.firstCells size 0 x).run P w = .ok news w) :
    (Builtin.append_ ts ty #[.slice none 0 0, x]).run P w = .ok (.slice none 0 0) w := by
  rcases htx with ⟨e', htx⟩ | htx <;>
    (simp [Builtin.append_, h0, h1, run_underlying ht, run_underlying htx, szOf_run hi, hlen, hnew])

/-- a grown row, in a new block -/
theorem grown_sound {ι : Loc} {F : Foot} {h : Heap X} {w : World} (r : Rel P R ι F h w) {e esz n cap : Nat} {z : Array Value} {cs : List AV} {vs : List Value} (hv : VRs ι cs vs) (hl : vs.length = n * esz) (hz : z.size = esz) (hsz : szOf P e = some esz) (hc : n ≤ cap) :
    ∃ ι' F', VR ι' (.sl h.next 0 n (.un 0)) (.slice (some ⟨w.heap.size, 0, none⟩) n cap) ∧ Rel P R ι' F' (h.add (.cells e cs false)) (w.drew.alloc (.cells (vs.toArray ++ Builtin.zeroCells z (cap - n)) e)) ∧
      Ev ι F h w ι' F' (h.add (.cells e cs false)) (w.drew.alloc (.cells (vs.toArray ++ Builtin.zeroCells z (cap - n)) e)) := by
  have hn : ι h.next = none := (r.fresh _ (Nat.le_refl _)).1
  have hnew : ∀ o : Obj, (w.drew.alloc o).heap[w.drew.heap.size]? = some o := fun o => by
    show (w.heap.push _)[w.heap.size]? = _
    rw [Array.getElem?_push_size]
  have rd : Rel P R ι F h w.drew := r.worldEq rfl
  have hsize : (vs.toArray ++ Builtin.zeroCells z (cap - n)).size = cap * esz := by
    have : (Builtin.zeroCells z (cap - n)).size = (cap - n) * esz := by simp [Builtin.zeroCells, hz]
    rw [Array.size_append, this, List.size_toArray, hl, ← Nat.add_mul]
    congr 1
    omega
  obtain ⟨r1, r2⟩ := rel_add rd (.cells e cs false) (.cells (vs.toArray ++ Builtin.zeroCells z (cap - n)) e) (.at w.drew.heap.size 0 cap)
    (or_new (vs := vs) (post := (Builtin.zeroCells z (cap - n)).toList) (hnew _) (by simp) (hv.mono (Loc.le_set _ hn)) (fun n' hn' => by rw [hsz] at hn'; cases hn'; rw [hsize]; exact Nat.le_refl _) (fun j => no_frozen _ j))
  refine ⟨_, _, ?_, r1, (Ev.worldEq (w := w) (w' := w.drew) rfl).trans r2⟩
  simp only [VR]
  exact ⟨_, Loc.set_same .., cap, rfl, by simp [capR, LocI.at], hc⟩

/-- a grown row, in the old one's block -/
theorem moved_sound {ι : Loc} {F : Foot} {h : Heap X} {w : World} (r : Rel P R ι F h w) {l : Pos} {e esz o k len n cap : Nat} {i : LocI} {cs old new : List AV} {news : List Value} (hg : h.m.get l = some (.cells e cs false)) (hi : ι l = some i)
    (hcut : cut o (len * esz) cs = some old) (hok : o = k * esz) (hv : VRs ι new news) (h1 : allOne new = true) (hl : news.length = n * esz) (hsz : szOf P e = some esz) (hcap : cap + k = i.cap) (hc : len + n ≤ cap) :
    ∃ w' ι' F', (storeCells ⟨i.blk, i.base + o + len * esz, none⟩ news).run P w = .ok () w' ∧ VR ι' (.sl h.next 0 (len + n) (.un 0)) (.slice (some ⟨i.blk, i.base + o, none⟩) (len + n) cap) ∧
      Rel P R ι' F' ((h.kill l).add (.cells e (old ++ new) false)) w' ∧ Ev ι F h w ι' F' ((h.kill l).add (.cells e (old ++ new) false)) w' := by
  have hn : ι h.next = none := (r.fresh _ (Nat.le_refl _)).1
  obtain ⟨hF, arr, fz, pre, us, post, k1, k2, k3, k4, k5, k6, k7⟩ := rel_cells r hg hi
  obtain ⟨c1, c2⟩ := cut_VRs hcut k4
  have hroom := k5 _ hsz
  have hfit : i.base + o + len * esz + n * esz ≤ arr.size := by
    have : (len + n + k) * esz ≤ i.cap * esz := Nat.mul_le_mul_right _ (by omega)
    rw [Nat.add_mul, Nat.add_mul] at this
    omega
  obtain ⟨w', arr', g1, gio, g2, g3, g4, g5, g6⟩ := run_storeRow (P := P) news (i.base + o + len * esz) 0 w arr k1 (hv.oneCells h1) (by omega) (k6 rfl)
  obtain ⟨r1, r2⟩ := rel_move r (.at i.blk (i.base + o) cap) (.cells e (old ++ new) false) hg g2 (fun b hb => g3 b (fun e => hb ((hF b).2 e)))
    (by
      refine ⟨hF, arr', fz, pre ++ us.take o, (us.drop o).take (len * esz) ++ news, (us ++ post).drop (o + len * esz + n * esz), g4, ?_, by simp [LocI.at]; omega, (c1.append hv).mono (Loc.le_set _ hn), fun n' hn' => ?_, fun _ => by rw [g5]; exact k6 rfl, fun n' hn' => ?_⟩
      · rw [g6, k2, Nat.add_zero, hl]
        have e1 : (pre ++ us ++ post).take (i.base + o + len * esz) = pre ++ us.take o ++ (us.drop o).take (len * esz) := by
          rw [List.append_assoc, List.take_append, List.take_of_length_le (by omega), show i.base + o + len * esz - pre.length = o + len * esz by omega, List.take_append, show o + len * esz - us.length = 0 by omega]
          rw [List.take_zero, List.append_nil, List.append_assoc, List.take_add]
        have e2 : (pre ++ us ++ post).drop (i.base + o + len * esz + n * esz) = (us ++ post).drop (o + len * esz + n * esz) := by
          rw [List.append_assoc, List.drop_append, List.drop_of_length_le (by omega), show i.base + o + len * esz + n * esz - pre.length = o + len * esz + n * esz by omega]
          simp
        rw [e1, e2]
        simp [List.append_assoc]
      · rw [hsz] at hn'
        cases hn'
        rw [g5]
        have : cap * esz + k * esz = i.cap * esz := by rw [← Nat.add_mul, hcap]
        simp only [LocI.at]
        omega
      · obtain ⟨k', hk'⟩ := k7 _ hn'
        rw [hsz] at hn'
        cases hn'
        exact ⟨k' + k, by simp only [LocI.at]; rw [Nat.add_mul, hk', hok]⟩)
  refine ⟨w', _, _, g1, ?_, r1, r2⟩
  simp only [VR]
  exact ⟨_, Loc.set_same .., cap, rfl, by simp [capR, LocI.at], hc⟩

theorem app_sound {ι : Loc} {F : Foot} {h h' : Heap X} {w : World} (r : Rel P R ι F h w) {ts : Array TypeId} {t tx ty : TypeId} {e esz b : Nat} {z : List AV} {s x v : AV} {sv xv : Value} (h0 : ts[0]? = some t) (h1 : ts[1]? = some tx)
    (hst : sliceT P t = some (e, esz + 1, b + 1, z)) (htx : (∃ e', P.underlying tx = some (.slice e')) ∨ P.underlying tx = some .string) (hv : evApp h e (esz + 1) (b + 1) s x = some (v, h')) (hs : VR ι s sv) (hx : VR ι x xv) :
    ∃ w' u ι' F', (Builtin.append_ ts ty #[sv, xv]).run P w = .ok u w' ∧ VR ι' v u ∧ Rel P R ι' F' h' w' ∧ Ev ι F h w ι' F' h' w' := by
  obtain ⟨ht, it, zv, hi, hz, hsz, hb, hzs, hzv, hszo⟩ := sliceT_spec hst
  simp only [evApp] at hv
  split at hv
  · cases hv
  · rename_i n new hsrc
    obtain ⟨news, s1, s2, s3, s4, s5⟩ := srcOf_sound r hsrc hx
    have grow : ∀ (base : Option Addr) (sLen sCap : Nat) (olds : List Value) (old : List AV), (Builtin.firstCells it.size sLen (.slice base sLen sCap)).run P w.drew = .ok ⟨olds⟩ w.drew → VRs ι old olds → olds.length = sLen * (esz + 1) → sCap < sLen + n →
        (sLen + n) * (b + 1) ≤ 1048576 → ∀ h₂, Rel P R ι F h₂ w → Ev ι F h w ι F h₂ w → h₂.next = h.next →
        ∃ w' u ι' F', (Builtin.append_ ts ty #[.slice base sLen sCap, xv]).run P w = .ok u w' ∧ VR ι' (.sl h.next 0 (sLen + n) (.un 0)) u ∧ Rel P R ι' F' (h₂.add (.cells e (old ++ new) false)) w' ∧ Ev ι F h w ι' F' (h₂.add (.cells e (old ++ new) false)) w' := by
      intro base sLen sCap olds old hold hov hol hg hfit h₂ r₂ e₂ hnx
      obtain ⟨cap, hc, hrun⟩ := run_app_grow (P := P) w (ty := ty) h0 h1 ht htx hi hz base sLen sCap n xv olds news hold (s1 w) (by rw [hsz]; exact s2 w.drew rfl) hg (by rw [hb]; exact hfit) (by omega)
      obtain ⟨ι', F', g1, g2, g3⟩ := grown_sound (z := zv.cells) r₂ (e := e) (esz := esz + 1) (n := sLen + n) (cap := cap) (hov.append s3) (by rw [List.length_append, hol, s4, Nat.add_mul]) hzs hszo hc
      rw [hnx] at g1
      exact ⟨_, _, ι', F', hrun, g1, g2, e₂.trans g3⟩
    cases s <;> first | (simp only at hv; cases hv; done) | skip
    · -- nil
      simp only [VR] at hs
      subst hs
      simp only [nbeq] at hv
      by_cases hn : n = 0
      · subst hn
        simp only [decide_true, cond_true, Option.some.injEq, Prod.mk.injEq] at hv
        obtain ⟨rfl, rfl⟩ := hv
        exact ⟨w, .slice none 0 0, ι, F, run_app_nil w h0 h1 ht htx hszo xv _ (s1 w) (s2 w rfl), by simp only [VR], r, Ev.refl ..⟩
      · simp only [hn, decide_false, cond_false] at hv
        cases hc : Nat.ble (n * (b + 1)) 1048576 && allOne new with
        | false => simp [hc] at hv
        | true =>
          simp only [hc, cond_true, Option.some.injEq, Prod.mk.injEq] at hv
          obtain ⟨rfl, rfl⟩ := hv
          simp only [Bool.and_eq_true, nble, decide_eq_true_eq] at hc
          have := grow none 0 0 [] [] (by simp [Builtin.firstCells]) VRs.nil (by simp) (by omega) (by simpa using hc.1) h r (Ev.refl ..) rfl
          simpa using this
    · rename_i l o len c
      simp only [VR] at hs
      obtain ⟨i, hloc, cap, rfl, hcap, hlc⟩ := hs
      cases c with
      | kn c =>
        simp only [capR] at hcap
        subst hcap
        simp only [nble, nbeq] at hv
        by_cases hroom : len + n ≤ cap
        · simp only [hroom, decide_true, cond_true] at hv
          by_cases hn : n = 0
          · subst hn
            simp only [decide_true, cond_true, Option.some.injEq, Prod.mk.injEq] at hv
            obtain ⟨rfl, rfl⟩ := hv
            have : news = [] := List.eq_nil_of_length_eq_zero (by simpa using s4)
            subst this
            refine ⟨w, _, ι, F, run_app_room w w h0 h1 ht htx hszo i.blk (i.base + o) len cap 0 xv [] (s1 w) (s2 w rfl) hroom (by simp [storeCells]), ?_, r, Ev.refl ..⟩
            simp only [VR]
            exact ⟨i, hloc, cap, by simp, rfl, hlc⟩
          · simp only [hn, decide_false, cond_false] at hv
            split at hv
            · rename_i h2 hst2
              simp only [Option.some.injEq, Prod.mk.injEq] at hv
              obtain ⟨rfl, rfl⟩ := hv
              obtain ⟨w', g1, g2, g3⟩ := stN_sound r hst2 hloc s3
              refine ⟨w', _, ι, F, run_app_room w w' h0 h1 ht htx hszo i.blk (i.base + o) len cap n xv news (s1 w) (s2 w rfl) hroom (by rw [Nat.add_assoc]; exact g1), ?_, g2, g3⟩
              simp only [VR]
              exact ⟨i, hloc, cap, rfl, rfl, hroom⟩
            · cases hv
        · simp only [hroom, decide_false, cond_false] at hv
          cases hc : decide ((len + n) * (b + 1) ≤ 1048576) && allOne new with
          | false => simp [hc] at hv
          | true =>
            simp only [hc, cond_true] at hv
            simp only [Bool.and_eq_true, decide_eq_true_eq] at hc
            split at hv
            · rename_i old hold
              simp only [Option.some.injEq, Prod.mk.injEq] at hv
              obtain ⟨rfl, rfl⟩ := hv
              obtain ⟨olds, o1, o2, o3⟩ := ld_cells r hold hloc
              refine grow _ len cap olds old ?_ o2 o1 (by omega) hc.1 h r (Ev.refl ..) rfl
              rw [hsz]
              have := o3 w.drew rfl (len * (esz + 1)) (Nat.le_refl _)
              rw [List.take_of_length_le (by omega)] at this
              exact this
            · cases hv
      | un k =>
        simp only [capR] at hcap
        simp only [nble, nbeq] at hv
        by_cases hn : n = 0
        · subst hn
          simp only [decide_true, cond_true, Option.some.injEq, Prod.mk.injEq] at hv
          obtain ⟨rfl, rfl⟩ := hv
          have : news = [] := List.eq_nil_of_length_eq_zero (by simpa using s4)
          subst this
          refine ⟨w, _, ι, F, run_app_room w w h0 h1 ht htx hszo i.blk (i.base + o) len cap 0 xv [] (s1 w) (s2 w rfl) hlc (by simp [storeCells]), ?_, r, Ev.refl ..⟩
          simp only [VR]
          exact ⟨i, hloc, cap, by simp, hcap, hlc⟩
        · simp only [hn, decide_false, cond_false] at hv
          cases hc : decide ((len + n) * (b + 1) ≤ 1048576) && allOne new && decide (o = k * (esz + 1)) with
          | false => simp [hc] at hv
          | true =>
            simp only [hc, cond_true] at hv
            simp only [Bool.and_eq_true, decide_eq_true_eq] at hc
            obtain ⟨⟨hfit, hone⟩, hok⟩ := hc
            split at hv
            · rename_i e' cs hg
              by_cases he : e = e'
              · subst he
                simp only [decide_true, cond_true] at hv
                split at hv
                · rename_i old hold
                  simp only [Option.some.injEq, Prod.mk.injEq] at hv
                  obtain ⟨rfl, rfl⟩ := hv
                  by_cases hroom : len + n ≤ cap
                  · obtain ⟨w', ι', F', g1, g2, g3, g4⟩ := moved_sound r hg hloc hold hok s3 hone s4 hszo hcap hroom
                    exact ⟨w', _, ι', F', run_app_room w w' h0 h1 ht htx hszo i.blk (i.base + o) len cap n xv news (s1 w) (s2 w rfl) hroom g1, g2, g3, g4⟩
                  · have hold' : ldN h l o (len * (esz + 1)) = some old := by simp only [ldN, hg]; exact hold
                    obtain ⟨olds, o1, o2, o3⟩ := ld_cells r hold' hloc
                    obtain ⟨k1, k2⟩ := rel_kill r l
                    refine grow _ len cap olds old ?_ o2 o1 (by omega) hfit (h.kill l) k1 k2 rfl
                    rw [hsz]
                    have := o3 w.drew rfl (len * (esz + 1)) (Nat.le_refl _)
                    rw [List.take_of_length_le (by omega)] at this
                    exact this
                · cases hv
              · simp [he] at hv
            · cases hv

theorem copy_sound {ι : Loc} {F : Foot} {h h' : Heap X} {w : World} (r : Rel P R ι F h w) {ts : Array TypeId} {t ty : TypeId} {e esz b : Nat} {z : List AV} {d s v : AV} {dv sv : Value} (h0 : ts[0]? = some t)
    (hst : sliceT P t = some (e, esz, b, z)) (hv : evCopy h esz d s = some (v, h')) (hd : VR ι d dv) (hs : VR ι s sv) :
    ∃ w' u, (Builtin.copy_ ts ty #[dv, sv]).run P w = .ok u w' ∧ VR ι v u ∧ Rel P R ι F h' w' ∧ Ev ι F h w ι F h' w' := by
  obtain ⟨ht, it, zv, hi, hz, hsz, hb, hzs, hzv, hszo⟩ := sliceT_spec hst
  simp only [evCopy] at hv
  split at hv
  · cases hv
  · rename_i n new hsrc
    obtain ⟨news, s1, s2, s3, s4, s5⟩ := srcOf_sound r hsrc hs
    cases d <;> first | (simp only at hv; cases hv; done) | skip
    · simp only [Option.some.injEq, Prod.mk.injEq] at hv
      obtain ⟨rfl, rfl⟩ := hv
      simp only [VR] at hd
      subst hd
      exact ⟨w, goInt 0, by simp [Builtin.copy_, h0, run_underlying ht, szOf_run hszo, s1, s5 0 w (Nat.zero_le _) rfl], by simp only [VR, goInt], r, Ev.refl ..⟩
    · rename_i l o dn c
      simp only [VR] at hd
      obtain ⟨i, hloc, cap, rfl, hcap, hlc⟩ := hd
      have hmin : (bif Nat.ble n dn then n else dn) = Nat.min n dn := by
        rw [nble]
        by_cases hle : n ≤ dn
        · simp only [hle, decide_true, cond_true]; exact (Nat.min_eq_left hle).symm
        · simp only [hle, decide_false, cond_false]; exact (Nat.min_eq_right (by omega)).symm
      simp only [hmin] at hv
      split at hv
      · rename_i h2 hst2
        simp only [Option.some.injEq, Prod.mk.injEq] at hv
        obtain ⟨rfl, rfl⟩ := hv
        have hm : Nat.min n dn ≤ n := Nat.min_le_left _ _
        obtain ⟨w', g1, g2, g3⟩ := stN_sound r hst2 hloc (xs := news.take (Nat.min n dn * esz)) (VRs.take s3 _)
        refine ⟨w', goInt (Nat.min n dn), ?_, by simp only [VR, goInt]; rfl, g2, g3⟩
        have := s5 (Nat.min n dn) w hm rfl
        have hdef : Builtin.copy_ ts ty #[.slice (some ⟨i.blk, i.base + o, none⟩) dn cap, sv] = (do
            let .slice elem ← underlying t | stuck "copy: slice type expected"
            let n := Nat.min (← Builtin.lenOf sv) dn
            let cells ← Builtin.firstCells (← sizeOf elem) n sv
            storeCells ⟨i.blk, i.base + o, none⟩ cells.toList
            pure (goInt n)) := by
          simp [Builtin.copy_, h0]
          congr 1
        rw [hdef]
        simp only [Sem.run_bind, run_underlying ht, szOf_run hszo, s1, Result.andThen_ok, this, g1, Sem.run_pure]
      · cases hv
    · simp only [Option.some.injEq, Prod.mk.injEq] at hv
      obtain ⟨rfl, rfl⟩ := hv
      simp only [VR] at hd
      obtain ⟨a, cap, rfl⟩ := hd
      exact ⟨w, goInt 0, by simp [Builtin.copy_, h0, run_underlying ht, szOf_run hszo, s1, s5 0 w (Nat.zero_le _) rfl, storeCells], by simp only [VR, goInt], r, Ev.refl ..⟩

theorem clearS_sound {ι : Loc} {F : Foot} {h h' : Heap X} {w : World} (r : Rel P R ι F h w) {ts : Array TypeId} {t ty : TypeId} {e esz b : Nat} {z : List AV} {x v : AV} {xv : Value} (h0 : ts[0]? = some t)
    (hst : sliceT P t = some (e, esz, b, z)) (hv : evClearS h esz z x = some (v, h')) (hx : VR ι x xv) :
    ∃ w', (Builtin.clear_ ts ty #[xv]).run P w = .ok (.tuple #[]) w' ∧ v = .tup [] ∧ Rel P R ι F h' w' ∧ Ev ι F h w ι F h' w' := by
  obtain ⟨ht, it, zv, hi, hz, hsz, hb, hzs, hzv, hszo⟩ := sliceT_spec hst
  have zr : ∀ w, (zeroValue e).run P w = .ok zv w := fun w => by simp [zeroValue, typeInfo, hi, hz]
  cases x <;> first | (simp only [evClearS] at hv; cases hv; done) | skip
  · simp only [evClearS, Option.some.injEq, Prod.mk.injEq] at hv
    obtain ⟨rfl, rfl⟩ := hv
    simp only [VR] at hx
    subst hx
    exact ⟨w, by simp [Builtin.clear_, h0, run_underlying ht], rfl, r, Ev.refl ..⟩
  · rename_i l o n c
    simp only [VR] at hx
    obtain ⟨i, hloc, cap, rfl, hcap, hlc⟩ := hx
    simp only [evClearS, nbeq] at hv
    by_cases hn : n = 0
    · subst hn
      simp only [decide_true, cond_true, Option.some.injEq, Prod.mk.injEq] at hv
      obtain ⟨rfl, rfl⟩ := hv
      exact ⟨w, by simp [Builtin.clear_, h0, run_underlying ht], rfl, r, Ev.refl ..⟩
    · simp only [hn, decide_false, cond_false] at hv
      split at hv
      · rename_i h2 hst2
        simp only [Option.some.injEq, Prod.mk.injEq] at hv
        obtain ⟨rfl, rfl⟩ := hv
        obtain ⟨w', g1, g2, g3⟩ := stN_sound r hst2 hloc (rep_VRs (hzv ι) n)
        obtain ⟨n, rfl⟩ : ∃ m, n = m + 1 := ⟨n - 1, by omega⟩
        refine ⟨w', ?_, rfl, g2, g3⟩
        rw [← zeroCells_toList] at g1
        simp [Builtin.clear_, h0, run_underlying ht, zr, g1]
      · cases hv
  · simp only [evClearS, Option.some.injEq, Prod.mk.injEq] at hv
    obtain ⟨rfl, rfl⟩ := hv
    simp only [VR] at hx
    obtain ⟨a, cap, rfl⟩ := hx
    exact ⟨w, by simp [Builtin.clear_, h0, run_underlying ht], rfl, r, Ev.refl ..⟩

end Go.Ev
