import Derived.Test.YtddcnopjjihmcaaGreatEv9
import Derived.Laws.MakeOwn
set_option linter.unusedSectionVars false
set_option linter.unusedVariables false
set_option linter.unusedSimpArgs false
namespace Go.Ev
variable {X : Type} [T : SymT] [V : SymV] {P : Program} {R : XRel X}

theorem sliceT_spec {t : TypeId} {e sz b : Nat} {z : List AV} (h : sliceT P t = some (e, sz, b, z)) :
    P.underlying t = some (.slice e) ∧ ∃ i zv, P.info? e = some i ∧ i.zero = some zv ∧ i.size = sz ∧ i.bytes = b ∧ zv.cells.size = sz ∧ (∀ ι, VRs ι z zv.cells.toList) ∧ szOf P e = some sz := by
  unfold sliceT at h
  split at h
  · rename_i e' ht
    split at h
    · rename_i i z' hi hz
      rw [nbeq] at h
      by_cases hl : z'.cells.length = i.size
      · simp only [hl, decide_true, cond_true, Option.some.injEq, Prod.mk.injEq] at h
        obtain ⟨rfl, rfl, rfl, rfl⟩ := h
        obtain ⟨i', zv, h1, h2, h3⟩ := zeroOf_run hz
        rw [hi] at h1
        cases h1
        have hv : ∀ ι, VRs ι z'.cells zv.cells.toList := fun ι => (cVal_sound ι h3).cells
        refine ⟨ht, i, zv, hi, h2, rfl, rfl, ?_, hv, by simp [szOf, hi]⟩
        have := (hv fun _ => none).length
        simp at this
        omega
      · simp [hl] at h
    · cases h
  · cases h

theorem range_rep {z : Array Value} {k : Nat} (hz : z.size = k) : ∀ n : Nat, (List.range (n * k)).map (fun i => z[i % k]!) = (List.replicate n z.toList).flatten
  | 0 => by simp
  | n + 1 => by
    have ih := range_rep hz n
    rw [Nat.add_mul, Nat.one_mul, Nat.add_comm, List.range_add, List.map_append, List.replicate_succ, List.flatten_cons, ← ih]
    congr 1
    · apply List.ext_getElem
      · simp [hz]
      · intro j h1 h2
        simp only [List.length_map, List.length_range] at h1
        simp only [List.getElem_map, List.getElem_range, Nat.mod_eq_of_lt h1]
        rw [getElem!_pos z j (by omega)]
        simp
    · simp [List.map_map, Function.comp_def, Nat.add_mod_left]

theorem rep_VRs {ι : Loc} {z : List AV} {l : List Value} (h : VRs ι z l) : ∀ n, VRs ι (rep n z) (List.replicate n l).flatten
  | 0 => by simpa [rep] using VRs.nil
  | n + 1 => by simpa [rep, List.replicate_succ] using h.append (rep_VRs h n)

theorem made_toList {z : Array Value} {k : Nat} (hz : z.size = k) (n : Nat) : ((Array.range (n * k)).map (fun i => z[i % k]!)).toList = (List.replicate n z.toList).flatten := by
  rw [Array.toList_map, Array.toList_range, range_rep hz]

theorem zeroCells_toList (z : Array Value) (n : Nat) : (Builtin.zeroCells z n).toList = (List.replicate n z.toList).flatten := by
  unfold Builtin.zeroCells
  exact made_toList rfl n

theorem VRs.extendR {ι : Loc} {cs : List AV} {arr : Array Value} {vs post : List Value} (h : arr.toList = vs ++ post) (hv : VRs ι cs vs) : ∃ pre vs' post', arr.toList = pre ++ vs' ++ post' ∧ pre.length = 0 ∧ VRs ι cs vs' :=
  ⟨[], vs, post, by simpa using h, rfl, hv⟩

theorem or_new {ι : Loc} {b cap : Nat} {w : World} {arr : Array Value} {e : TypeId} {fz : Nat × Nat} {cs : List AV} {vs post : List Value} (hb : w.heap[b]? = some (.cells arr e fz)) (ha : arr.toList = vs ++ post)
    (hv : VRs ι cs vs) (hc : ∀ n, szOf P e = some n → cap * n ≤ arr.size) (hf : ∀ j, j < arr.size → ¬(fz.1 ≤ j ∧ j < fz.2)) : OR P R ι (.at b 0 cap) (fun x => x = b) w (.cells e cs false) :=
  ⟨fun _ => Iff.rfl, arr, fz, [], vs, post, hb, by simpa using ha, rfl, hv, fun n hn => by simpa [LocI.at] using hc n hn, fun _ => hf, fun n _ => ⟨0, by simp [LocI.at]⟩⟩

theorem no_frozen (n j : Nat) : j < n → ¬((0, 0).1 ≤ j ∧ j < (0, 0).2) := by intro _ h; simp at h

theorem run_buildSlice (w : World) {t e n sz : Nat} {i : TypeInfo} {z : Value} {ps : Array (Nat × Value)} {us : Array Value} (ht : P.underlying t = some (.slice e)) (hi : P.info? e = some i) (hz : i.zero = some z)
    (hs : i.size = sz + 1) (hzs : z.cells.size = sz + 1) (h24 : n * (sz + 1) ≤ 16777216) (g : Instr.fill (fun i => some (i * (sz + 1), sz + 1)) ((Array.range (n * (sz + 1))).map (fun i => z.cells[i % (sz + 1)]!)) ps.toList = some us) :
    (Instr.buildSlice t n ps).run P w = .ok (.slice (some ⟨w.heap.size, 0, none⟩) n n) (w.alloc (.cells us e)) := by
  have h24' : ¬ (16777216 < n * (sz + 1)) := by omega
  cases n with
  | zero =>
    simp only [Nat.zero_mul, Array.range_zero', Array.map_empty] at g
    simp [Instr.buildSlice, run_underlying ht, sizeOf, typeInfo, hi, hs, g, newRow, Array.range_zero']
  | succ n =>
    simp [Instr.buildSlice, run_underlying ht, sizeOf, typeInfo, hi, hs, h24', zeroValue, hz, newRow, hzs, g]

theorem cBuiltin_not_a {b : Builtin} {ts : List TypeId} {as : List Opd} {q : AOp} (h : cBuiltin P b ts as = .a q) : False := by
  simp only [cBuiltin] at h
  repeat' (split at h)
  all_goals cases h

theorem shape_alloc (w : World) (arr : Array Value) (e : TypeId) : (w.drew.alloc (.cells arr e)).shape? w.heap.size = some (e, arr.size) := by
  have h : (w.drew.alloc (.cells arr e)).heap[w.heap.size]? = some (.cells arr e) := by
    show (w.heap.push _)[w.heap.size]? = _
    rw [Array.getElem?_push_size]
  unfold World.shape?
  rw [h]

theorem appendCap_ge (need old e t : Nat) : need ≤ (Question.appendCap need old e).cut t := by
  simp [Question.cut]

theorem VRs.bytes (ι : Loc) : ∀ (l : List UInt8), VRs ι (l.map (fun b => AV.int .u8 (.ofNat b.toNat))) (l.map (fun b => Value.int .u8 b.toNat))
  | [] => VRs.nil
  | b :: l => VRs.cons (by simp only [VR]; rfl) (VRs.bytes ι l)

/-- a string's bytes in a new row -/
theorem run_s2b (w : World) {s d e : TypeId} (hs : P.underlying s = some .string) (hd : P.underlying d = some (.slice e)) (he : P.underlying e = some (.int .u8)) (bs : ByteArray) :
    ∃ w1 cap arr, (convert s d (.string bs)).run P w = .ok (.slice (some ⟨w.heap.size, 0, none⟩) bs.size cap) w1 ∧ (w1.heap = w.heap.push (.cells arr e (arr.size, arr.size + 1)) ∧ w1.os = w.os ∧ w1.output = w.output) ∧ (bs.size ≤ cap ∧ bs.data.toList.length = bs.size) ∧
      arr.toList = (bs.data.toList.map fun b => .int .u8 b.toNat) ++ List.replicate (cap - bs.size) (.int .u8 0) := by
  have hcap := appendCap_ge bs.size 0 e (w.tape w.drawn (.appendCap bs.size 0 e))
  generalize hc : (Question.appendCap bs.size 0 e).cut (w.tape w.drawn (.appendCap bs.size 0 e)) = cap at hcap
  generalize harr : (bs.data.map fun b => Value.int .u8 b.toNat) ++ Array.replicate (cap - bs.size) (.int .u8 0) = arr
  refine ⟨(w.drew.alloc (.cells arr e)).freeze ⟨w.heap.size, arr.size, none⟩ 1, cap, arr, ?_, ?_, ⟨hcap, rfl⟩, by rw [← harr]; simp⟩
  · simp [convert, run_underlying hs, run_underlying hd, run_underlying he, Conv.stringToBytes, Question.forced, hc, newRow, markStringish, shape_alloc, harr]
    rw [← harr]
    simp
  · refine ⟨?_, by simp [World.freeze]; rfl, by simp [World.freeze]; rfl⟩
    simp only [World.freeze, World.alloc, World.drew, Nat.one_ne_zero, if_false]
    apply Array.ext_getElem?
    intro j
    rw [Array.getElem?_modify, Array.getElem?_push]
    by_cases hj : j = w.heap.size
    · subst hj; simp
    · simp [hj, Ne.symm hj, Array.getElem?_push]

/-- **the operations that make a block** -/
theorem a_sound {ι : Loc} {env : Env} {a : Act} {o : Oper} {q : AOp} {v : AV} {ob : AObj X} {w : World} {l : Pos} (hc : cOpO P o.op = some (.a q)) (hv : evA env l q = some (v, ob)) (he : EnvR ι env a.tmps) :
    ∃ u obj i w1, (execOp a.eval o).run P w = .ok (.value u) w1 ∧ (w1.heap = w.heap.push obj ∧ w1.os = w.os ∧ w1.output = w.output) ∧
      ∀ (ι' : Loc) (w2 : World), ι.le ι' → ι' l = some i → w2.heap[w.heap.size]? = some obj → VR ι' v u ∧ OR P R ι' i (fun b => b = w.heap.size) w2 ob := by
  obtain ⟨dst, op, type, pos, after, guard⟩ := o
  have val : ∀ {s : Sem Value} {u : Value} {w' : World}, s.run P w = .ok u w' → (do pure (.value (← s)) : Sem Next).run P w = .ok (.value u) w' := fun h => by simp [h]
  have ptr : ∀ {ι' : Loc} {c : Nat}, ι' l = some (.at w.heap.size 0 c) → VR ι' (.ptr l 0) (.pointer (some ⟨w.heap.size, 0, none⟩)) := fun h => by
    simp only [VR]; exact ⟨_, h, rfl⟩
  cases op <;> simp only [cOpO] at hc
  case alloc e =>
    obtain ⟨z, hz, hc⟩ := bind_some hc
    cases hc
    simp only [evA, Option.some.injEq, Prod.mk.injEq] at hv
    obtain ⟨rfl, rfl⟩ := hv
    obtain ⟨i, zv, h1, h2, h3⟩ := zeroOf_run hz
    refine ⟨.pointer (some ⟨w.heap.size, 0, none⟩), .cells zv.cells e, (.at w.heap.size 0 0), w.alloc (.cells zv.cells e), ?_, ⟨rfl, rfl, rfl⟩, fun ι' w2 hle hl hw => ⟨ptr hl, ?_⟩⟩
    · simp only [execOp]
      exact val (by simp [Instr.alloc, zeroValue, typeInfo, h1, h2, newVar, newRow, run_newObj])
    · exact or_new (post := []) hw (by simp) (cVal_sound ι' h3).cells (fun n _ => by simp) (fun j => no_frozen _ j)
  case box e x =>
    obtain ⟨x', hx', hc⟩ := bind_some hc
    cases hc
    simp only [evA, Option.some.injEq, Prod.mk.injEq] at hv
    obtain ⟨rfl, rfl⟩ := hv
    have vx := opd_sound hx' he
    refine ⟨.pointer (some ⟨w.heap.size, 0, none⟩), .cells (a.eval x).cells e, (.at w.heap.size 0 0), w.alloc (.cells (a.eval x).cells e), ?_, ⟨rfl, rfl, rfl⟩, fun ι' w2 hle hl hw => ⟨ptr hl, ?_⟩⟩
    · simp only [execOp]
      exact val (by simp [Instr.box, newVar, newRow, run_newObj])
    · exact or_new (post := []) hw (by simp) (vx.mono hle).cells (fun n _ => by simp) (fun j => no_frozen _ j)
  case buildSlice t n ps =>
    split at hc
    · rename_i e sz b z hst
      obtain ⟨ht, i, zv, hi, hz, hsz, hb, hzs, hzv, hszo⟩ := sliceT_spec hst
      split at hc
      · cases hc
      · rename_i hle
        obtain ⟨l', hl', hc⟩ := bind_some hc
        cases hc
        simp only [evA, evBslice] at hv
        split at hv
        · rename_i cs hcs
          simp only [Option.some.injEq, Prod.mk.injEq] at hv
          obtain ⟨rfl, rfl⟩ := hv
          have hzero : VRs ι (rep n z) ((Array.range (n * (sz + 1))).map fun i => zv.cells[i % (sz + 1)]!).toList := by
            rw [made_toList hzs]; exact rep_VRs (hzv ι) n
          obtain ⟨us, g1, g2⟩ := fillP_sound he hl' hcs hzero
          refine ⟨.slice (some ⟨w.heap.size, 0, none⟩) n n, .cells ⟨us⟩ e, (.at w.heap.size 0 0), w.alloc (.cells ⟨us⟩ e), ?_, ⟨rfl, rfl, rfl⟩, fun ι' w2 hle hl hw => ⟨?_, ?_⟩⟩
          · simp only [execOp]
            refine val ?_
            have hps : (ps.map fun (i, x) => (i, a.eval x)).toList = ps.toList.map fun (i, x) => (i, a.eval x) := by simp
            refine run_buildSlice w ht hi hz hsz hzs (by omega) ?_
            rw [hps]
            exact g1
          · simp only [VR]
            exact ⟨_, hl, n, rfl, rfl, Nat.le_refl _⟩
          · exact or_new (post := []) hw (by simp) (g2.mono hle) (fun n _ => by simp) (fun j => no_frozen _ j)
        · cases hv
    · cases hc
  case convert s d x =>
    obtain ⟨x', hx', hc⟩ := bind_some hc
    have hc : cConv P s d x' = .a q := Option.some.inj hc
    have vx := opd_sound hx' he
    simp only [cConv] at hc
    split at hc
    · cases hc
    · cases hc
    · rename_i e hs hd
      split at hc
      · rename_i hel hsz
        cases hc
        simp only [evA] at hv
        generalize x'.ev env = ax at hv vx
        generalize hbx : a.eval x = bx at vx
        cases ax <;> first | (simp only [evS2b] at hv; cases hv; done) | skip
        simp only [evS2b, Option.some.injEq, Prod.mk.injEq] at hv
        obtain ⟨rfl, rfl⟩ := hv
        simp only [VR] at vx
        obtain ⟨bs, rfl, hbm, hok⟩ := vx
        have hlen := congrArg List.length hbm
        simp only [List.length_map, Array.length_toList] at hlen
        replace hlen : _ = bs.size := hlen.symm
        obtain ⟨w1, cap, arr, h1, h2, h3, h4⟩ := run_s2b w hs hd hel bs
        refine ⟨.slice (some ⟨w.heap.size, 0, none⟩) bs.size cap, .cells arr e (arr.size, arr.size + 1), (.at w.heap.size 0 cap), w1, ?_, h2, fun ι' w2 hle hl hw => ⟨?_, ?_⟩⟩
        · simp only [execOp]
          rw [hbx]
          exact val h1
        · simp only [VR, hlen]
          exact ⟨_, hl, cap, by simp [LocI.at], by simp [capR, LocI.at], by simpa using h3.1⟩
        · refine or_new (vs := bs.data.toList.map fun b => .int .u8 b.toNat) (post := List.replicate (cap - bs.size) (.int .u8 0)) hw h4 ?_ (fun n hn => ?_) (fun j hj hjj => ?_)
          · exact bytesAV_sound hbm hok
          · rw [hsz] at hn
            cases hn
            have := congrArg List.length h4
            simp at this
            have := h3.2
            omega
          · simp at hjj
            omega
      · cases hc
    · split at hc <;> cases hc
    · split at hc <;> cases hc
    · split at hc <;> cases hc
    · cases hc
  case makeMap t r =>
    cases r with
    | some r => cases hc
    | none =>
      replace hc : (match mapT P t with | some _ => some (IOp.a AOp.mkmap) | none => none) = some (IOp.a q) := hc
      split at hc
      · cases hc
        simp only [evA, Option.some.injEq, Prod.mk.injEq] at hv
        obtain ⟨rfl, rfl⟩ := hv
        refine ⟨.map (some w.heap.size), .map #[] 0, (.at w.heap.size 0 0), w.alloc (.map #[] 0), ?_, ⟨rfl, rfl, rfl⟩, fun ι' w2 hle hl hw => ⟨?_, ?_⟩⟩
        · simp only [execOp]
          exact val (by simp [Instr.makeMap])
        · simp only [VR]
          exact ⟨_, hl, rfl⟩
        · exact ⟨fun _ => Iff.rfl, #[], hw, by simp [MR]⟩
      · cases hc
  case makeSlice t n c =>
    split at hc
    · rename_i e sz b z hst
      obtain ⟨ht, i, zv, hi, hz, hsz, hb, hzs, hzv, hszo⟩ := sliceT_spec hst
      obtain ⟨n', hn', hc⟩ := bind_some hc
      obtain ⟨c', hc', hc⟩ := bind_some hc
      cases hc
      simp only [evA] at hv
      have vn := opd_sound hn' he
      have vc := opd_sound hc' he
      generalize n'.ev env = an at hv vn
      generalize c'.ev env = ac at hv vc
      cases an <;> first | (simp only [evMkslice] at hv; cases hv; done) | skip
      rename_i kn xn
      cases kn <;> first | (simp only [evMkslice] at hv; cases hv; done) | skip
      cases xn <;> first | (simp only [evMkslice] at hv; cases hv; done) | skip
      rename_i xn
      cases ac <;> first | (simp only [evMkslice] at hv; cases hv; done) | skip
      rename_i kc xc
      cases kc <;> first | (simp only [evMkslice] at hv; cases hv; done) | skip
      cases xc <;> first | (simp only [evMkslice] at hv; cases hv; done) | skip
      rename_i xc
      simp only [evMkslice] at hv
      cases hb' : Nat.ble xn xc && Nat.ble (xc * (b + 1)) 1048576 with
      | false => simp [hb'] at hv
      | true =>
        simp only [hb', cond_true, Option.some.injEq, Prod.mk.injEq] at hv
        obtain ⟨rfl, rfl⟩ := hv
        simp only [Bool.and_eq_true, nble, decide_eq_true_eq] at hb'
        simp only [VR] at vn vc
        obtain ⟨hle, hby⟩ := hb'
        have h48 : (i.bytes : Int) * Int.ofNat xc ≤ 281474976710656 := by
          have h : ((i.bytes * xc : Nat) : Int) ≤ 281474976710656 := by
            rw [hb, Nat.mul_comm]; show ((xc * (b + 1) : Nat) : Int) ≤ _; omega
          rwa [Int.natCast_mul] at h
        have hxc : xc ≤ 1048576 := by
          refine Nat.le_trans ?_ hby
          exact Nat.le_mul_of_pos_right _ (by omega)
        have hr := run_make (P := P) w t e i zv ht hi hz .i64 .i64 (.ofNat xn) (.ofNat xc) (by simp) (by simpa using hle) h48 (by simp; omega)
        refine ⟨.slice (some ⟨w.heap.size, 0, none⟩) xn xc, .cells (madeCells zv.cells (xc * i.size)) e, (.at w.heap.size 0 0), w.alloc (.cells (madeCells zv.cells (xc * i.size)) e), ?_, ⟨rfl, rfl, rfl⟩, fun ι' w2 hle' hl hw => ⟨?_, ?_⟩⟩
        · simp only [execOp, vn, vc]
          exact val hr
        · simp only [VR]
          exact ⟨_, hl, xc, by simp [LocI.at], rfl, hle⟩
        · refine or_new (vs := (List.replicate xc zv.cells.toList).flatten) (post := []) hw ?_ (rep_VRs (hzv ι') xc) (fun n _ => by simp) (fun j => no_frozen _ j)
          rw [List.append_nil, ← made_toList hzs, hsz]
          unfold madeCells
          rw [hzs]
    · cases hc
  all_goals
    ((repeat' (first | (split at hc) | (obtain ⟨_, _, hc⟩ := bind_some hc))) <;> first | (cases hc; done) | contradiction | exact absurd (Option.some.inj hc) cBuiltin_not_a)


end Go.Ev
