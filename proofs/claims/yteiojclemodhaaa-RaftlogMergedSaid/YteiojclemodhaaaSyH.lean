/- The symbolic walk through a region that draws its order: the walk itself. No condition. -/
import Derived.Test.YteiojclemodhaaaSyG
namespace Go.Proofs.Yteiojclemodhaaa
open Go.RowKit Go.ChangeShapes Go.WideShapes Go.Deep
set_option linter.unusedVariables false
set_option linter.unusedSimpArgs false
def leafTags : SV → List Nat
  | .ptr t _ => [t]
  | .own t => [t]
  | .oel t _ _ _ => [t]
  | _ => []
def svR : SV → List Nat
  | .rp _ _ vs _ => vs.flatMap leafTags
  | s => leafTags s
def svTags : SV → List Nat
  | .agg vs => vs.flatMap leafTags
  | .gd _ (.agg vs) => vs.flatMap leafTags
  | .gd _ (.clo _ vs) => vs.flatMap svR
  | .gd _ s => svR s
  | .clo _ vs => vs.flatMap svR
  | s => svR s
def deepTags (st : St) (ss : List SV) : List Nat :=
  ss.flatMap svTags ++ (ss.flatMap svTags).flatMap fun t => match st.m t with | .cells _ vs => vs.flatMap leafTags | _ => []
theorem wid_pos (op : Op) : 0 < wid op := by unfold wid; split <;> decide
/-- the tags that an operation may take -/
def blkN : Nat → Nat → List Nat
  | _, 0 => []
  | c, n + 1 => c :: blkN (c + 1) n
theorem blkN_mem : ∀ (n c t : Nat), t ∈ blkN c n ↔ c ≤ t ∧ t < c + n
  | 0, c, t => by simp [blkN]
  | n + 1, c, t => by rw [blkN, List.mem_cons, blkN_mem n]; omega
/-- what an operation's operands say -/
structure Agree (a b : St) (c n : Nat) (xs : List Operand) : Prop where
  like : Like a b
  ev : ∀ x, x ∈ xs → a.ev x = b.ev x
  m : ∀ t, t ∈ blkN c n ∨ t ∈ deepTags a (xs.map fun x => (strip (a.ev x)).1) → a.m t = b.m t
theorem deep_of {st : St} {ss : List SV} {s : SV} (hs : s ∈ ss) {t : Nat} (ht : t ∈ leafTags s) : t ∈ deepTags st ss := by
  refine List.mem_append_left _ (List.mem_flatMap.2 ⟨s, hs, ?_⟩)
  cases s <;> first | exact ht | (simp [leafTags] at ht)
theorem Agree.tag {a b : St} {c n : Nat} {xs : List Operand} (h : Agree a b c n xs) {x : Operand} (hx : x ∈ xs) {t : Nat} (ht : t ∈ leafTags (strip (a.ev x)).1) : a.m t = b.m t :=
  h.m t (.inr (deep_of (List.mem_map.2 ⟨x, hx, rfl⟩) ht))
theorem Agree.cells {a b : St} {c n : Nat} {xs : List Operand} (h : Agree a b c n xs) {x : Operand} (hx : x ∈ xs) : cellsAt a (strip (a.ev x)).1 = cellsAt b (strip (a.ev x)).1 := by
  have := fun t => h.tag hx (t := t)
  cases hs : (strip (a.ev x)).1 <;> simp only [cellsAt] <;> rw [hs] at this <;> rw [this _ (by simp [leafTags])]
theorem Agree.len {a b : St} {c n : Nat} {xs : List Operand} (h : Agree a b c n xs) {x : Operand} (hx : x ∈ xs) : lenV a (strip (a.ev x)).1 = lenV b (strip (a.ev x)).1 := by
  have := fun t => h.tag hx (t := t)
  cases hs : (strip (a.ev x)).1 <;> simp only [lenV] <;> rw [hs] at this <;> rw [this _ (by simp [leafTags])]
theorem Agree.free {a b : St} {c n : Nat} {xs : List Operand} (h : Agree a b c n xs) (hn : 0 < n) : a.free c = b.free c := by
  simp only [St.free, h.m c (.inl ((blkN_mem n c c).2 ⟨Nat.le_refl _, by omega⟩))]
/-- calls and the other operations look at no more -/
def OrcLoc (C : Cfg) : Prop := ∀ c f a b svs, Like a b → (∀ t, t ∈ blkN c 24 ∨ t ∈ deepTags a svs → a.m t = b.m t) → C.orc c f a svs = C.orc c f b svs
def MoreLoc (more : Nat → St → TypeId → Op → Option Upd) : Prop := ∀ c a b ty op, Agree a b c (wid op) op.operands.toList → more c a ty op = more c b ty op
theorem evL_congr {a b : St} : ∀ (xs : List Operand), (∀ x, x ∈ xs → a.ev x = b.ev x) → evL a xs = evL b xs
  | [], _ => rfl
  | x :: r, h => by rw [evL, evL, h x (List.mem_cons_self ..), evL_congr r (fun y hy => h y (List.mem_cons_of_mem _ hy))]
theorem evL_fst {a : St} : ∀ (xs : List Operand), (evL a xs).1 = xs.map fun x => (strip (a.ev x)).1
  | [] => rfl
  | x :: r => by rw [evL, List.map_cons, evL_fst r]
theorem partsS_congr {a b : St} : ∀ (xs : List (Nat × Operand)), (∀ x, x ∈ xs.map (·.2) → a.ev x = b.ev x) → partsS a xs = partsS b xs
  | [], _ => rfl
  | (i, x) :: r, h => by rw [partsS, partsS, h x (by simp), partsS_congr r (fun y hy => h y (List.mem_cons_of_mem _ hy))]
theorem core_congr {P : Program} {C : Cfg} {more : Nat → St → TypeId → Op → Option Upd} (hC : OrcLoc C) (hM : MoreLoc more) {c : Nat} {a b : St} {ty : TypeId} {op : Op} (h : Agree a b c (wid op) op.operands.toList) : core P C more c a ty op = core P C more c b ty op := by
  have hev := h.ev
  unfold core
  split
  · rename_i x; simp only [cMove, hev x (by simp [Op.operands])]
  · rename_i x; simp only [cMove, hev x (by simp [Op.operands])]
  · rename_i x y z; simp only [cPick, hev x (by simp [Op.operands]), hev y (by simp [Op.operands]), hev z (by simp [Op.operands])]
  · rename_i T x; simp only [cBox, hev x (by simp [Op.operands]), h.free (wid_pos _)]
  · simp only [cAlloc, h.free (wid_pos _)]
  · rename_i T ps
    simp only [cBuild]
    rw [partsS_congr ps.toList (fun x hx => hev x (by simpa [Op.operands] using hx))]
  · rename_i T x
    simp only [cLoad]
    rw [h.cells (x := x) (by simp [Op.operands]), hev x (by simp [Op.operands])]
  · rename_i T x y
    have e : cStore P a T x y = cStore P b T x y := by
      have hx := hev x (by simp [Op.operands])
      have ht := fun t => h.tag (x := x) (by simp [Op.operands]) (t := t)
      simp only [cStore, hev y (by simp [Op.operands])]
      rw [← hx]
      rcases hs : strip (a.ev x) with ⟨s, n⟩
      rw [hs] at ht
      cases s
      case ptr t off =>
        have e2 := ht t (by simp [leafTags])
        rcases strip (b.ev y) with ⟨s2, n2⟩
        cases sizeT P T with
        | none => rfl
        | some k => simp only [e2]
      all_goals rfl
    rw [e, hM c a b ty _ h]
  · rename_i T x f; simp only [cFieldAddr, hev x (by simp [Op.operands])]
  · rename_i T x f; simp only [cField, hev x (by simp [Op.operands])]
  · rename_i T x i
    simp only [cIndexAddr, hev i (by simp [Op.operands])]
    have hx := hev x (by simp [Op.operands])
    have ht := fun t => h.tag (x := x) (by simp [Op.operands]) (t := t)
    rw [← hx]
    rcases hs : strip (a.ev x) with ⟨s, n⟩
    rw [hs] at ht
    cases sliceE P T with
    | none => rfl
    | some e =>
      rcases strip (b.ev i) with ⟨si, n1⟩
      cases si
      case int k m =>
        cases hz : sizeT P e with
        | none => cases s <;> simp only [hz]
        | some sz =>
          cases s
          case own t => simp only [hz]; rw [ht t (by simp [leafTags])]
          all_goals simp only [hz]
      all_goals rfl
  · rename_i x i; simp only [cExtract, hev x (by simp [Op.operands])]
  · rename_i op T x y T2
    have e : cBin P a op T x y = cBin P b op T x y := by simp only [cBin, hev x (by simp [Op.operands]), hev y (by simp [Op.operands])]
    rw [e, hM c a b ty _ h]
  · rename_i op T x; simp only [cUn, hev x (by simp [Op.operands])]
  · rename_i s d x
    have e : cConv P a s d x = cConv P b s d x := by simp only [cConv, hev x (by simp [Op.operands])]
    rw [e, hM c a b ty _ h]
  · rename_i x; simp only [cNil, hev x (by simp [Op.operands])]
  · rename_i f xs ts
    have hmem : ∀ x, x ∈ xs.toList → x ∈ (Op.call ⟨.value (.func f), xs, ts⟩).operands.toList := fun x hx => by simp [Op.operands, Call.operands]; exact .inr (by simpa using hx)
    have e2 := evL_congr xs.toList (fun x hx => hev x (hmem x hx))
    have e3 := hC c f a b (evL a xs.toList).1 h.like (fun t ht => h.m t (by
      rcases ht with ht | ht
      · exact .inl ht
      · right
        rw [evL_fst] at ht
        simp only [deepTags, List.mem_append, List.mem_flatMap] at ht ⊢
        have key : ∀ s, s ∈ List.map (fun x => (strip (a.ev x)).1) xs.toList → s ∈ List.map (fun x => (strip (a.ev x)).1) (Op.call ⟨.value (.func f), xs, ts⟩).operands.toList := by
          intro s hs
          obtain ⟨x, hx, e⟩ := List.mem_map.1 hs
          exact List.mem_map.2 ⟨x, hmem x hx, e⟩
        rcases ht with ⟨s, h1, h2⟩ | ⟨t2, ⟨s, h1, h2⟩, h3⟩
        · exact .inl ⟨s, key s h1, h2⟩
        · exact .inr ⟨t2, ⟨s, key s h1, h2⟩, h3⟩))
    simp only [cFun]
    rw [e3, e2]
  · rename_i t0 xs ts
    have hmem : ∀ x, x ∈ xs.toList → x ∈ (Op.call ⟨.value (.tmp t0), xs, ts⟩).operands.toList := fun x hx => by simp [Op.operands, Call.operands]; exact .inr (by simpa using hx)
    have e2 := evL_congr xs.toList (fun x hx => hev x (hmem x hx))
    have e0 := hev (.tmp t0) (by simp [Op.operands, Call.operands])
    have key : ∀ f cs, (∀ s, s ∈ cs → ∃ x, x ∈ (Op.call ⟨.value (.tmp t0), xs, ts⟩).operands.toList ∧ (∀ t, t ∈ svR s → t ∈ svTags (strip (a.ev x)).1)) → (∀ s, s ∈ cs → svTags s = svR s) → C.orc c f a ((evL a xs.toList).1 ++ cs) = C.orc c f b ((evL a xs.toList).1 ++ cs) := by
      intro f cs hcs hlf
      refine hC c f a b _ h.like (fun t ht => h.m t ?_)
      rcases ht with ht | ht
      · exact .inl ht
      · right
        rw [evL_fst] at ht
        have hin : ∀ t2, t2 ∈ ((xs.toList.map fun x => (strip (a.ev x)).1) ++ cs).flatMap svTags → t2 ∈ (List.map (fun x => (strip (a.ev x)).1) (Op.call ⟨.value (.tmp t0), xs, ts⟩).operands.toList).flatMap svTags := by
          intro t2 h2
          obtain ⟨s, hs, h3⟩ := List.mem_flatMap.1 h2
          rcases List.mem_append.1 hs with hs | hs
          · obtain ⟨x, hx, e⟩ := List.mem_map.1 hs
            exact List.mem_flatMap.2 ⟨s, List.mem_map.2 ⟨x, hmem x hx, e⟩, h3⟩
          · obtain ⟨x, hx, h4⟩ := hcs s hs
            exact List.mem_flatMap.2 ⟨_, List.mem_map.2 ⟨x, hx, rfl⟩, h4 t2 (by rw [← hlf s hs]; exact h3)⟩
        simp only [deepTags, List.mem_append] at ht ⊢
        rcases ht with h1 | h1
        · exact .inl (hin t h1)
        · obtain ⟨t2, h2, h3⟩ := List.mem_flatMap.1 h1
          exact .inr (List.mem_flatMap.2 ⟨t2, hin t2 h2, h3⟩)
    simp only [cClo]
    rw [← e2, ← e0]
    rcases hs : strip (a.ev (.tmp t0)) with ⟨s, n⟩
    cases s
    case fn f => simp only []; have := key f [] (fun s hs => by cases hs) (fun s hs => by cases hs); rw [List.append_nil] at this; rw [this]
    case clo f cs =>
      by_cases hfl : cs.all SV.cap = true
      · have := key f cs (fun s hs2 => ⟨.tmp t0, by simp [Op.operands, Call.operands], fun t ht => by rw [hs]; exact List.mem_flatMap.2 ⟨s, hs2, ht⟩⟩) (fun s hs2 => by
          have := List.all_eq_true.1 hfl s hs2
          cases s <;> first | rfl | (simp [SV.cap, SV.flat] at this))
        simp only [hfl, if_true, this]
      · simp only [hfl, if_false, Bool.false_eq_true]
    all_goals rfl
  · rename_i x T
    simp only [cLen]
    rw [h.len (x := x) (by simp [Op.operands, Call.operands]), hev x (by simp [Op.operands, Call.operands])]
  · exact hM c a b ty _ h
/-- the keys that an operation looks at -/
def rds (ops : Array Oper) (c : Nat) (o : Oper) (st : St) : List Key :=
  (o.looksAt ops).map Key.t ++ (blkN c (wid o.op) ++ deepTags st (o.op.operands.toList.map fun x => (strip (st.ev x)).1)).map Key.m
theorem stepOp_congr {P : Program} {C : Cfg} {more : Nat → St → TypeId → Op → Option Upd} (hC : OrcLoc C) (hM : MoreLoc more) {ops : Array Oper} {c : Nat} {o : Oper} {a b : St} (hl : Like a b) (h : ∀ k, k ∈ rds ops c o a → a.get k = b.get k) :
    stepOp P C more ops c o a = stepOp P C more ops c o b := by
  have ht : ∀ t, t ∈ o.looksAt ops → a.s t = b.s t := fun t ht => by
    have := h (.t t) (List.mem_append_left _ (List.mem_map.2 ⟨t, ht, rfl⟩))
    simpa [St.get] using this
  have hev : ∀ x, x ∈ o.op.operands.toList → a.ev x = b.ev x := by
    intro x hx
    cases x with
    | tmp t =>
      refine ht t ?_
      simp only [Oper.looksAt, List.mem_append, List.mem_filterMap]
      exact .inl ⟨.tmp t, hx, rfl⟩
    | _ => rfl
  have hag : Agree a b c (wid o.op) o.op.operands.toList := ⟨hl, hev, fun t ht2 => by
    have := h (.m t) (List.mem_append_right _ (List.mem_map.2 ⟨t, List.mem_append.2 ht2, rfl⟩))
    simpa [St.get] using this⟩
  have hcore : full P C more c a o.type o.op = full P C more c b o.type o.op := by unfold full; rw [core_congr (P := P) (ty := o.type) hC hM hag, hM c a b o.type o.op hag]
  unfold stepOp
  cases hg : o.guard with
  | none => exact hcore
  | some jp =>
    obtain ⟨j, pol⟩ := jp
    have hgb : guardB ops a j pol = guardB ops b j pol := by
      unfold guardB
      cases hd : (ops[j]?).bind (·.dst) with
      | none => rfl
      | some t =>
        simp only []
        rw [ht t (by simp [Oper.looksAt, hg, hd])]
    simp only [hgb, hcore]
/-- the operations in the text's order: what each does -/
inductive RU
  | ok (us : List (Option Tmp × Upd)) (rs : List (List Key)) (st : St)
  | bad (c : Nat) (o : Op) (st : St)
def runU (P : Program) (C : Cfg) (more : Nat → St → TypeId → Op → Option Upd) (ops : Array Oper) : Nat → List Oper → St → RU
  | _, [], st => .ok [] [] st
  | c, o :: r, st => match stepOp P C more ops c o st with
    | some u => match runU P C more ops (c + wid o.op) r (st.app o.dst u) with
      | .ok us rs st2 => .ok ((o.dst, u) :: us) (rds ops c o st :: rs) st2
      | .bad c o s => .bad c o s
    | none => .bad c o.op st
theorem runU_at {P : Program} {C : Cfg} {more : Nat → St → TypeId → Op → Option Upd} {ops : Array Oper} : ∀ (l : List Oper) (c : Nat) (st st2 : St) (us : List (Option Tmp × Upd)) (rs : List (List Key)), runU P C more ops c l st = .ok us rs st2 →
    us.length = l.length ∧ rs.length = l.length ∧ st2 = apl (fun _ => true) 0 us st ∧ ∀ i o, l[i]? = some o → ∃ u, us[i]? = some (o.dst, u) ∧ rs[i]? = some (rds ops (c + widS (l.take i)) o (apl (fun n => decide (n < i)) 0 us st)) ∧ stepOp P C more ops (c + widS (l.take i)) o (apl (fun n => decide (n < i)) 0 us st) = some u
  | [], c, st, st2, us, rs, h => by
    simp only [runU, RU.ok.injEq] at h
    obtain ⟨rfl, rfl, rfl⟩ := h
    exact ⟨rfl, rfl, rfl, fun i o h => by simp at h⟩
  | o :: l, c, st, st2, us, rs, h => by
    simp only [runU] at h
    split at h
    case h_2 => simp at h
    rename_i u hu
    split at h
    case h_2 => simp at h
    rename_i us2 rs2 st3 h2
    simp only [RU.ok.injEq] at h
    obtain ⟨rfl, rfl, rfl⟩ := h
    obtain ⟨h3, h4, h5, h6⟩ := runU_at l (c + wid o.op) _ _ _ _ h2
    have shiftD : ∀ (l : List (Option Tmp × Upd)) (n : Nat) (D D' : Nat → Bool) (s : St), (∀ i, D (n + 1 + i) = D' (n + i)) → apl D (n + 1) l s = apl D' n l s := by
      intro l
      induction l with
      | nil => intro _ _ _ _ _; rfl
      | cons x l ih =>
        intro n D D' s hD
        obtain ⟨d, v⟩ := x
        rw [apl, apl]
        have h0 := hD 0
        rw [Nat.add_zero, Nat.add_zero] at h0
        rw [h0]
        exact ih (n + 1) D D' _ (fun i => by have := hD (i + 1); rwa [show n + 1 + (i + 1) = n + 1 + 1 + i by omega, show n + (i + 1) = n + 1 + i by omega] at this)
    refine ⟨by simp [h3], by simp [h4], ?_, fun i o' ho => ?_⟩
    · rw [h5, apl, if_pos rfl]
      exact (shiftD us2 0 _ _ _ (fun _ => rfl)).symm
    · cases i with
      | zero =>
        simp only [List.getElem?_cons_zero, Option.some.injEq] at ho
        subst ho
        have e : apl (fun n => decide (n < 0)) 0 ((o.dst, u) :: us2) st = st := apl_none _ _ _ _ (fun j _ => by simp)
        refine ⟨u, rfl, ?_, ?_⟩
        · rw [e]; rfl
        · rw [e]; exact hu
      | succ i =>
        obtain ⟨u2, h7, h8, h9⟩ := h6 i o' (by simpa using ho)
        have e : apl (fun n => decide (n < i + 1)) 0 ((o.dst, u) :: us2) st = apl (fun n => decide (n < i)) 0 us2 (st.app o.dst u) := by
          rw [apl, if_pos (by simp)]
          exact shiftD us2 0 _ _ _ (fun j => by simp only [Nat.zero_add, decide_eq_decide]; omega)
        refine ⟨u2, by simpa using h7, ?_, ?_⟩
        · rw [e, List.take_succ_cons, show c + widS (o :: l.take i) = c + wid o.op + widS (l.take i) by rw [widS]; omega]; simpa using h8
        · rw [e, List.take_succ_cons, show c + widS (o :: l.take i) = c + wid o.op + widS (l.take i) by rw [widS]; omega]; exact h9
/-- do two operations hang together through no key? -/
def indep (ua : Option Tmp × Upd) (ra : List Key) (ub : Option Tmp × Upd) (rb : List Key) : Bool :=
  Key.apart (wrs ua.1 ua.2) (wrs ub.1 ub.2) && Key.apart (wrs ua.1 ua.2) rb && Key.apart (wrs ub.1 ub.2) ra
/-- each one hangs together with none that may come ahead of it or behind it -/
def indepRow (an : Nat) (ub : Option Tmp × Upd) (rb : List Key) : Nat → List (Option Tmp × Upd) → List (List Key) → Bool
  | i, ua :: us, ra :: rs => (an.testBit i || indep ua ra ub rb) && indepRow an ub rb (i + 1) us rs
  | _, _, _ => true
def indepAll (us : List (Option Tmp × Upd)) (rs : List (List Key)) (an : List Nat) : Nat → List (Option Tmp × Upd) → List (List Key) → Bool
  | j, ub :: usb, rb :: rsb => indepRow (an.getD j 0) ub rb 0 (us.take j) (rs.take j) && indepAll us rs an (j + 1) usb rsb
  | _, _, _ => true
theorem indepRow_ok {an : Nat} {ub : Option Tmp × Upd} {rb : List Key} : ∀ (k : Nat) (us : List (Option Tmp × Upd)) (rs : List (List Key)), indepRow an ub rb k us rs = true → ∀ i ua ra, us[i]? = some ua → rs[i]? = some ra → an.testBit (k + i) = true ∨ indep ua ra ub rb = true
  | k, u :: us, r :: rs, h, i, ua, ra, hu, hr => by
    simp only [indepRow, Bool.and_eq_true, Bool.or_eq_true] at h
    cases i with
    | zero => simp only [List.getElem?_cons_zero, Option.some.injEq] at hu hr; subst hu; subst hr; exact h.1
    | succ i => have := indepRow_ok (k + 1) us rs h.2 i ua ra (by simpa using hu) (by simpa using hr); rwa [show k + (i + 1) = k + 1 + i by omega]
  | _, [], _, _, i, _, _, hu, _ => by simp at hu
  | _, _ :: _, [], _, i, _, _, _, hr => by simp at hr
theorem indepAll_ok {us : List (Option Tmp × Upd)} {rs : List (List Key)} {an : List Nat} : ∀ (k : Nat) (usb : List (Option Tmp × Upd)) (rsb : List (List Key)), indepAll us rs an k usb rsb = true → ∀ j ub rb, usb[j]? = some ub → rsb[j]? = some rb → indepRow (an.getD (k + j) 0) ub rb 0 (us.take (k + j)) (rs.take (k + j)) = true
  | k, u :: usb, r :: rsb, h, j, ub, rb, hu, hr => by
    simp only [indepAll, Bool.and_eq_true] at h
    cases j with
    | zero => simp only [List.getElem?_cons_zero, Option.some.injEq] at hu hr; subst hu; subst hr; exact h.1
    | succ j => have := indepAll_ok (k + 1) usb rsb h.2 j ub rb (by simpa using hu) (by simpa using hr); rwa [show k + (j + 1) = k + 1 + j by omega]
  | _, [], _, _, j, _, _, hu, _ => by simp at hu
  | _, _ :: _, [], _, j, _, _, _, hr => by simp at hr
/-- edges go backwards -/
def fwd : Nat → List Oper → Bool
  | _, [] => true
  | i, o :: r => o.after.toList.all (fun e => Nat.blt e.on i || !Region.binds .any e) && fwd (i + 1) r
theorem fwd_ok : ∀ (k : Nat) (l : List Oper), fwd k l = true → ∀ i o, l[i]? = some o → ∀ e ∈ o.after.toList, Region.binds .any e = true → e.on < k + i
  | k, o :: r, h, i, o', ho, e, he, hb => by
    simp only [fwd, Bool.and_eq_true] at h
    cases i with
    | zero =>
      simp only [List.getElem?_cons_zero, Option.some.injEq] at ho
      subst ho
      have := List.all_eq_true.1 h.1 e he
      simp only [Bool.or_eq_true, hb, Bool.not_true, Bool.false_eq_true, or_false] at this
      have := this
      simp [Nat.blt] at this
      omega
    | succ i => have := fwd_ok (k + 1) r h.2 i o' (by simpa using ho) e he hb; omega
  | _, [], _, i, o', ho, _, _, _ => by simp at ho
section
variable {P : Program} {base : Nat} {X : Cx} {w0 : World} {st : St}
/-- in whatever order -/
theorem draws {C : Cfg} (hC : OrcOk P C) (hCl : OrcLoc C) {more : Nat → St → TypeId → Op → Option Upd} (hM : MoreOk P more) (hMl : MoreLoc more) {ops : Array Oper} {Q : Exit → Act → World → Prop} {c : Nat} {us : List (Option Tmp × Upd)} {rs : List (List Key)} {st2 : St}
    (hr : runU P C more ops c ops.toList st = .ok us rs st2) (hf : fwd 0 ops.toList = true) (hi : indepAll us rs (ancs ops.toList []) 0 us rs = true) (hn : ∀ x, x ∈ us → ∀ p, p ∈ x.2.needs → p)
    (hQ : ∀ E a w, st2.Ok base X w0 E a w → Q .normal a w) : ∀ (fuel : Nat) (listed : Array Bool), listed.size = ops.size → (listed.toList.filter (!·)).length = fuel → Closed ops.toList (fun i => listed.getD i false) →
    ∀ E a w, (apl (fun i => listed.getD i false) 0 us st).Ok base X w0 E a w → wpAny P .any ops Q fuel listed a w := by
  obtain ⟨hul, hrl, hst2, hat⟩ := runU_at ops.toList c st st2 us rs hr
  have hsz : ops.toList.length = ops.size := Array.length_toList
  -- two operations that hang together are ordered
  have hdep : ∀ (D : Nat → Bool), Closed ops.toList D → ∀ i j ui ri uj rj, us[i]? = some ui → rs[i]? = some ri → us[j]? = some uj → rs[j]? = some rj → i < j → D j = true → D i = false → indep ui ri uj rj = true := by
    intro D hD i j ui ri uj rj h1 h2 h3 h4 hij hj hi'
    have := indepAll_ok 0 us rs hi j uj rj h3 h4
    rw [Nat.zero_add] at this
    rcases indepRow_ok 0 _ _ this i ui ri (by rw [List.getElem?_take, if_pos hij]; exact h1) (by rw [List.getElem?_take, if_pos hij]; exact h2) with h5 | h5
    · rw [Nat.zero_add] at h5
      have := ancs_ok ops.toList [] (fun i o ho hd => hD i o ho (by simpa using hd)) (fun j i hb _ => by simp at hb) j i h5 hj
      rw [hi'] at this; cases this
    · exact h5
  intro fuel
  induction fuel with
  | zero =>
    intro listed hls hfl hcl E a w h
    have hall : ∀ i, i < ops.size → listed.getD i false = true := by
      intro i hi
      have hz : listed.toList.filter (!·) = [] := List.eq_nil_of_length_eq_zero hfl
      have hm : listed[i]'(by omega) ∈ listed.toList := by simp
      have := List.filter_eq_nil_iff.1 hz _ hm
      rw [Array.getD_eq_getD_getElem?, Array.getElem?_eq_getElem (by omega)]
      simpa using this
    refine ⟨?_, ?_⟩
    · unfold Region.ready
      refine List.filter_eq_nil_iff.2 fun i hi => ?_
      have hi' := List.mem_range.1 hi
      have := hall i hi'
      have e : listed.getD i true = true := by
        rw [Array.getD_eq_getD_getElem?, Array.getElem?_eq_getElem (by omega)] at this ⊢
        simpa using this
      simp [e]
    · refine hQ E a w ?_
      rw [hst2]
      rw [apl_all 0 us st (fun i => listed.getD i false) (fun j hj => by rw [Nat.zero_add]; exact hall j (by omega))] at h
      exact h
  | succ fuel ih =>
    intro listed hls hfl hcl E a w h
    refine ⟨fun hnil => ?_, fun j hj => ?_⟩
    · -- the least one that is not listed is ready
      exfalso
      have hex : ∃ i, i < ops.size ∧ listed.getD i false = false := by
        have hne : listed.toList.filter (!·) ≠ [] := by intro e; rw [e] at hfl; simp at hfl
        obtain ⟨b, hb⟩ := List.exists_mem_of_ne_nil _ hne
        obtain ⟨h1, h2⟩ := List.mem_filter.1 hb
        obtain ⟨i, hi, e⟩ := List.mem_iff_getElem.1 h1
        have hi2 : i < listed.size := by simpa using hi
        refine ⟨i, by omega, ?_⟩
        rw [Array.getD_eq_getD_getElem?, Array.getElem?_eq_getElem hi2]
        simp at h2 e ⊢
        rw [e]; exact h2
      have key : ∀ n i, i ≤ n → i < ops.size → listed.getD i false = false → False := by
        intro n
        induction n with
        | zero =>
          intro i hin hi hl
          have hi0 : i = 0 := by omega
          subst hi0
          have hmem : 0 ∈ Region.ready .any ops listed := by
            unfold Region.ready
            refine List.mem_filter.2 ⟨List.mem_range.2 hi, ?_⟩
            have e1 : listed.getD 0 true = false := by
              rw [Array.getD_eq_getD_getElem?, Array.getElem?_eq_getElem (by omega)] at hl ⊢; simpa using hl
            rw [e1, Array.getElem?_eq_getElem hi]
            simp only [Bool.not_false, Option.map_some, Option.getD_some, Bool.true_and]
            rw [← Array.all_toList]
            refine List.all_eq_true.2 fun e he => ?_
            cases hb : Region.binds .any e
            · rfl
            · have := fwd_ok 0 ops.toList hf 0 ops[0] (by rw [Array.getElem?_toList, Array.getElem?_eq_getElem hi]) e he hb; omega
          rw [hnil] at hmem; cases hmem
        | succ n ihn =>
          intro i hin hi hl
          have hmem : i ∈ Region.ready .any ops listed := by
            unfold Region.ready
            refine List.mem_filter.2 ⟨List.mem_range.2 hi, ?_⟩
            have e1 : listed.getD i true = false := by
              rw [Array.getD_eq_getD_getElem?, Array.getElem?_eq_getElem (by omega)] at hl ⊢; simpa using hl
            rw [e1, Array.getElem?_eq_getElem hi]
            simp only [Bool.not_false, Option.map_some, Option.getD_some, Bool.true_and]
            rw [← Array.all_toList]
            refine List.all_eq_true.2 fun e he => ?_
            cases hb : Region.binds .any e
            · rfl
            · have hlt := fwd_ok 0 ops.toList hf i ops[i] (by rw [Array.getElem?_toList, Array.getElem?_eq_getElem hi]) e he hb
              cases hd : listed.getD e.on false
              · exact (ihn e.on (by omega) (by omega) hd).elim
              · rfl
          rw [hnil] at hmem; cases hmem
      obtain ⟨i, hi, hl⟩ := hex
      exact key i i (Nat.le_refl _) hi hl
    · unfold Region.ready at hj
      obtain ⟨hj1, hj2⟩ := List.mem_filter.1 hj
      have hjs := List.mem_range.1 hj1
      obtain ⟨hj3, hj4⟩ := Bool.and_eq_true _ _ ▸ hj2
      have hjl : listed.getD j false = false := by
        rw [Array.getD_eq_getD_getElem?, Array.getElem?_eq_getElem (by omega)] at hj3 ⊢
        simpa using hj3
      have hoj : ops.toList[j]? = some ops[j] := by rw [Array.getElem?_toList, Array.getElem?_eq_getElem hjs]
      have hpre : ∀ e ∈ ops[j].after.toList, Region.binds .any e = true → listed.getD e.on false = true := by
        rw [Array.getElem?_eq_getElem hjs] at hj4
        simp only [Option.map_some, Option.getD_some] at hj4
        rw [← Array.all_toList] at hj4
        intro e he hb
        have := List.all_eq_true.1 hj4 e he
        rw [hb] at this
        simpa using this
      obtain ⟨u, hu1, hu2, hu3⟩ := hat j ops[j] hoj
      let D := fun i => listed.getD i false
      -- a writer of a key that j looks at or writes
      have hrd : ∀ i ui ri, us[i]? = some ui → rs[i]? = some ri → i ≠ j → ∀ k, k ∈ wrs ui.1 ui.2 → (k ∈ rds ops (c + widS (ops.toList.take j)) ops[j] (apl (fun n => decide (n < j)) 0 us st) ∨ k ∈ wrs ops[j].dst u) → D i = decide (i < j) := by
        intro i ui ri h1 h2 hne k hk hor
        by_cases hij : i < j
        · rw [decide_eq_true hij]
          cases hd : D i
          · -- then i stands ahead of j: closed with j
            exfalso
            have hind := indepAll_ok 0 us rs hi j _ _ hu1 hu2
            rw [Nat.zero_add] at hind
            rcases indepRow_ok 0 _ _ hind i ui ri (by rw [List.getElem?_take, if_pos hij]; exact h1) (by rw [List.getElem?_take, if_pos hij]; exact h2) with h5 | h5
            · rw [Nat.zero_add] at h5
              have hcl2 : Closed ops.toList (fun n => decide (n = j) || D n) := by
                intro n o ho hd' e he hb
                simp only [Bool.or_eq_true, decide_eq_true_eq] at hd' ⊢
                rcases hd' with rfl | hd'
                · rw [hoj] at ho; cases ho; exact .inr (hpre e he hb)
                · exact .inr (hcl n o ho hd' e he hb)
              have := ancs_ok (D := fun n => decide (n = j) || D n) ops.toList [] (fun i o ho hd => hcl2 i o ho (by simpa using hd)) (fun j i hb _ => by simp at hb) j i h5 (by simp)
              simp only [Bool.or_eq_true, decide_eq_true_eq] at this
              rcases this with h6 | h6
              · exact hne h6
              · rw [hd] at h6; cases h6
            · simp only [indep, Bool.and_eq_true] at h5
              rcases hor with h6 | h6
              · exact Key.apart_ok h5.1.2 hk h6
              · exact Key.apart_ok h5.1.1 hk h6
          · rfl
        · rw [decide_eq_false hij]
          cases hd : D i
          · rfl
          · exfalso
            have h5 := hdep D hcl j i _ _ ui ri hu1 hu2 h1 h2 (by omega) hd hjl
            simp only [indep, Bool.and_eq_true] at h5
            rcases hor with h6 | h6
            · exact Key.apart_ok h5.2 hk h6
            · exact Key.apart_ok h5.1.1 h6 hk
      have hrsAt : ∀ (i : Nat) (ui : Option Tmp × Upd), us[i]? = some ui → ∃ ri, rs[i]? = some ri := by
        intro i ui h1
        have := (List.getElem?_eq_some_iff.1 h1).1
        exact ⟨rs[i]'(by omega), List.getElem?_eq_getElem _⟩
      have hlikeD := (apl_like D 0 us st)
      have hlikeJ := (apl_like (fun n => decide (n < j)) 0 us st)
      -- what the operation does here is what it does in the text's order
      have hstep : stepOp P C more ops (c + widS (ops.toList.take j)) ops[j] (apl D 0 us st) = some u := by
        rw [← hu3]
        refine (stepOp_congr hCl hMl (hlikeJ.trans hlikeD.symm) (fun k hk => ?_)).symm
        refine apl_get 0 us st st ⟨rfl, rfl⟩ rfl (fun n hw => ?_)
        obtain ⟨d, v, h1, h2⟩ := hw
        obtain ⟨rn, h3⟩ := hrsAt n _ h1
        rw [Nat.zero_add]
        by_cases hne : n = j
        · subst hne
          show decide (n < n) = D n
          rw [show D n = false from hjl]; simp
        · exact (hrd n (d, v) rn h1 h3 hne k h2 (.inl hk)).symm
      have hlisted : ∀ i, (listed.setIfInBounds j true).getD i false = (decide (i = j) || D i) := by
        intro i
        simp only [Array.getD_eq_getD_getElem?, Array.getElem?_setIfInBounds, D]
        by_cases e : j = i
        · subst e; simp [hls, hjs]
        · have : ¬ i = j := fun e2 => e e2.symm
          simp [e, this]
      unfold wpOp
      rw [Array.getElem?_eq_getElem hjs]
      simp only []
      have hres := stepOp_ok hC hM hstep (Q := Q) (K := wpAny P .any ops Q fuel (listed.setIfInBounds j true)) h (fun p hp => hn _ (List.mem_of_getElem? hu1) p hp) (fun E' a' w' h' => ?_)
      · split
        · rename_i hw; rw [if_pos hw] at hres; exact .inl hres
        · rename_i hw; rw [if_neg hw] at hres; exact hres
      · refine ih _ (by simpa using hls) ?_ ?_ E' a' w' ?_
        · have e1 : listed.toList = listed.toList.take j ++ false :: listed.toList.drop (j + 1) := by
            have hjl2 : listed[j]'(by omega) = false := by
              rw [Array.getD_eq_getD_getElem?, Array.getElem?_eq_getElem (by omega)] at hjl; simpa using hjl
            rw [← hjl2, ← Array.getElem_toList (by rw [Array.length_toList]; omega), ← List.drop_eq_getElem_cons, List.take_append_drop]
          have e2 : (listed.setIfInBounds j true).toList = listed.toList.take j ++ true :: listed.toList.drop (j + 1) := by
            rw [Array.toList_setIfInBounds, List.set_eq_take_append_cons_drop, if_pos (by rw [Array.length_toList]; omega)]
          rw [e1] at hfl
          rw [e2]
          simp only [List.filter_append, List.length_append, List.filter_cons, Bool.not_false, Bool.not_true, if_true, Bool.false_eq_true, if_false, List.length_cons] at hfl ⊢
          omega
        · intro n o ho hd e he hb
          have hd : (listed.setIfInBounds j true).getD n false = true := hd
          show (listed.setIfInBounds j true).getD e.on false = true
          rw [hlisted] at hd ⊢
          simp only [Bool.or_eq_true, decide_eq_true_eq] at hd ⊢
          rcases hd with rfl | hd
          · rw [hoj] at ho; cases ho; exact .inr (hpre e he hb)
          · exact .inr (hcl n o ho hd e he hb)
        · have e3 : (fun i => (listed.setIfInBounds j true).getD i false) = (fun i => decide (i = j) || D i) := funext hlisted
          rw [e3]
          refine St.Ok.congr ?_ (fun k => ?_) h'
          · exact ((St.app_like _ _ _).trans hlikeD).trans (apl_like _ 0 us st).symm
          · by_cases hk : k ∈ wrs ops[j].dst u
            · have hu1' : us[j]? = some (ops[j].dst, u) := hu1
              refine (apl_last 0 us st _ j _ u hu1' hk (by simp) (fun n hjn hw => ?_) hlikeD.symm).symm
              obtain ⟨d, v, h1, h2⟩ := hw
              obtain ⟨rn, h3⟩ := hrsAt n _ h1
              have := hrd n (d, v) rn h1 h3 (by omega) k h2 (.inr hk)
              rw [Nat.zero_add]
              simp only [this]
              have hx : ¬ n = j := by omega
              have hy : ¬ n < j := by omega
              simp [hx, hy]
            · rw [St.app_ne hk]
              refine apl_get 0 us st st ⟨rfl, rfl⟩ rfl (fun n hw => ?_)
              obtain ⟨d, v, h1, h2⟩ := hw
              rw [Nat.zero_add]
              by_cases hne : n = j
              · subst hne
                rw [hu1] at h1
                simp only [Option.some.injEq, Prod.mk.injEq] at h1
                obtain ⟨rfl, rfl⟩ := h1
                exact absurd h2 hk
              · simp [hne]
end
end Go.Proofs.Yteiojclemodhaaa
