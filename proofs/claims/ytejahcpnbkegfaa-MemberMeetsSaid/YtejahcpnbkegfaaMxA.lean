/- The contracts of the member functions, as the symbolic walk has them. No condition. -/
import Derived.Test.YtejahcpnbkegfaaSxP
import Derived.Test.YtejahcpnbkegfaaMeJ
import Derived.Test.YtejahcpnbkegfaaMeK
namespace Go.Proofs.Ytejahcpnbkegfaa
open Go.RowKit Go.ChangeShapes Go.WideShapes Go.Deep
set_option linter.unusedVariables false
set_option linter.unusedSimpArgs false
theorem arg_ints {S : Nat → Prop} {w : World} {s : SV} {l : List Int} {m : List Nat} (h : s.asInts = some (l, m)) {v : Value} (hd : DenV (E0 S) w s v) : ∃ a c, v = .slice a l.length c ∧ SlI w S a l.length c l := rd_ints h hd
theorem arg_cfg {S : Nat → Prop} {w : World} {cs : List SV} {c : Config} {m : List Nat} (h : Config.of cs = some (c, m)) {v : Value} (hd : DenV (E0 S) w (.agg cs) v) : ∃ xs, v = .agg xs.toArray ∧ RdL w S Config.ty xs c.enc := by
  obtain ⟨xs, e, h2⟩ := hd
  exact ⟨xs, e, (Config.svs_rd (Config.of_ok h h2)).mono fun b _ hb => E0_set hb⟩
theorem arg_snap {S : Nat → Prop} {w : World} {cs : List SV} {c : Snap} {m : List Nat} (h : Snap.of cs = some (c, m)) {v : Value} (hd : DenV (E0 S) w (.agg cs) v) : ∃ xs, v = .agg xs.toArray ∧ RdL w S Snap.ty xs c.enc := by
  obtain ⟨xs, e, h2⟩ := hd
  exact ⟨xs, e, (Snap.svs_rd (Snap.of_ok h h2)).mono fun b _ hb => E0_set hb⟩
theorem one_arg {E : Env} {w : World} {s : SV} {vals : List Value} (h : DenL E w [s] vals) : ∃ v, vals = [v] ∧ DenV E w s v := by
  match vals, h with
  | [v], h => exact ⟨v, rfl, h.1⟩
theorem two_arg {E : Env} {w : World} {s t : SV} {vals : List Value} (h : DenL E w [s, t] vals) : ∃ v u, vals = [v, u] ∧ DenV E w s v ∧ DenV E w t u := by
  match vals, h with
  | [v, u], h => exact ⟨v, u, rfl, h.1, h.2.1⟩
abbrev Go3 := List SV → Option (List Prop × SV × List BE)
/-- of one configuration -/
def goC (r : Config → List Prop × SV × List BE) : Go3
  | [.agg cs] => match Config.of cs with | some (c, _) => some (r c) | none => none
  | _ => none
def goCI (r : Config → Int → List Prop × SV × List BE) : Go3
  | [.agg cs, .int .i64 n] => match Config.of cs with | some (c, _) => some (r c n) | none => none
  | _ => none
def goCC (r : Config → Config → List Prop × SV × List BE) : Go3
  | [.agg cs, .agg ds] => match Config.of cs, Config.of ds with | some (c, _), some (d, _) => some (r c d) | _, _ => none
  | _ => none
def goCL (r : Config → List Int → List Prop × SV × List BE) : Go3
  | [.agg cs, s] => match Config.of cs, s.asInts with | some (c, _), some (l, _) => some (r c l) | _, _ => none
  | _ => none
def goLI (r : List Int → Int → List Prop × SV × List BE) : Go3
  | [s, .int .i64 n] => match s.asInts with | some (l, _) => some (r l n) | none => none
  | _ => none
def goLL (r : List Int → List Int → List Prop × SV × List BE) : Go3
  | [s, t] => match s.asInts, t.asInts with | some (l, _), some (k, _) => some (r l k) | _, _ => none
  | _ => none
theorem goC_ok {P : Program} {f : FuncId} {r : Config → List Prop × SV × List BE} (hB : FnB P f) (h : ∀ cs c m, Config.of cs = some (c, m) → (∀ p ∈ (r c).1, p) → FnC P f [.agg cs] (r c).2.1 (r c).2.2) : EntOk P ⟨f, goC r⟩ := by
  refine ⟨hB, fun ins n out mo hg hn => ?_⟩
  change goC r ins = some (n, out, mo) at hg
  unfold goC at hg
  split at hg
  case h_2 => simp at hg
  split at hg
  case h_2 => simp at hg
  rename_i cs _ c m hc
  simp only [Option.some.injEq] at hg
  have := h cs c m hc (by rw [hg]; exact hn)
  rwa [hg] at this
theorem goCI_ok {P : Program} {f : FuncId} {r : Config → Int → List Prop × SV × List BE} (hB : FnB P f) (h : ∀ cs c m n, Config.of cs = some (c, m) → (∀ p ∈ (r c n).1, p) → FnC P f [.agg cs, .int .i64 n] (r c n).2.1 (r c n).2.2) : EntOk P ⟨f, goCI r⟩ := by
  refine ⟨hB, fun ins n out mo hg hn => ?_⟩
  change goCI r ins = some (n, out, mo) at hg
  unfold goCI at hg
  split at hg
  case h_2 => simp at hg
  split at hg
  case h_2 => simp at hg
  rename_i cs k _ c m hc
  simp only [Option.some.injEq] at hg
  have := h cs c m k hc (by rw [hg]; exact hn)
  rwa [hg] at this
theorem goCC_ok {P : Program} {f : FuncId} {r : Config → Config → List Prop × SV × List BE} (hB : FnB P f) (h : ∀ cs ds c d m k, Config.of cs = some (c, m) → Config.of ds = some (d, k) → (∀ p ∈ (r c d).1, p) → FnC P f [.agg cs, .agg ds] (r c d).2.1 (r c d).2.2) : EntOk P ⟨f, goCC r⟩ := by
  refine ⟨hB, fun ins n out mo hg hn => ?_⟩
  change goCC r ins = some (n, out, mo) at hg
  unfold goCC at hg
  split at hg
  case h_2 => simp at hg
  split at hg
  case h_2 => simp at hg
  rename_i cs ds _ _ c m d k hc hd
  simp only [Option.some.injEq] at hg
  have := h cs ds c d m k hc hd (by rw [hg]; exact hn)
  rwa [hg] at this
theorem goCL_ok {P : Program} {f : FuncId} {r : Config → List Int → List Prop × SV × List BE} (hB : FnB P f) (h : ∀ cs s c l m k, Config.of cs = some (c, m) → s.asInts = some (l, k) → (∀ p ∈ (r c l).1, p) → FnC P f [.agg cs, s] (r c l).2.1 (r c l).2.2) : EntOk P ⟨f, goCL r⟩ := by
  refine ⟨hB, fun ins n out mo hg hn => ?_⟩
  change goCL r ins = some (n, out, mo) at hg
  unfold goCL at hg
  split at hg
  case h_2 => simp at hg
  split at hg
  case h_2 => simp at hg
  rename_i cs s _ _ c m l k hc hd
  simp only [Option.some.injEq] at hg
  have := h cs s c l m k hc hd (by rw [hg]; exact hn)
  rwa [hg] at this
theorem goLI_ok {P : Program} {f : FuncId} {r : List Int → Int → List Prop × SV × List BE} (hB : FnB P f) (h : ∀ s l m n, s.asInts = some (l, m) → (∀ p ∈ (r l n).1, p) → FnC P f [s, .int .i64 n] (r l n).2.1 (r l n).2.2) : EntOk P ⟨f, goLI r⟩ := by
  refine ⟨hB, fun ins n out mo hg hn => ?_⟩
  change goLI r ins = some (n, out, mo) at hg
  unfold goLI at hg
  split at hg
  case h_2 => simp at hg
  split at hg
  case h_2 => simp at hg
  rename_i s k _ l m hc
  simp only [Option.some.injEq] at hg
  have := h s l m k hc (by rw [hg]; exact hn)
  rwa [hg] at this
theorem goLL_ok {P : Program} {f : FuncId} {r : List Int → List Int → List Prop × SV × List BE} (hB : FnB P f) (h : ∀ s t l k m m', s.asInts = some (l, m) → t.asInts = some (k, m') → (∀ p ∈ (r l k).1, p) → FnC P f [s, t] (r l k).2.1 (r l k).2.2) : EntOk P ⟨f, goLL r⟩ := by
  refine ⟨hB, fun ins n out mo hg hn => ?_⟩
  change goLL r ins = some (n, out, mo) at hg
  unfold goLL at hg
  split at hg
  case h_2 => simp at hg
  split at hg
  case h_2 => simp at hg
  rename_i s t _ _ l m k m' hc hd
  simp only [Option.some.injEq] at hg
  have := h s t l k m m' hc hd (by rw [hg]; exact hn)
  rwa [hg] at this
theorem bEach {p : Prop} (h : ∀ q ∈ [p], q) : p := h p (by simp)
theorem fnB {f : FuncId} {fn : Func} (h : Try.prog.funcs[f]? = some fn) (h2 : fn.name ≠ "runtime.NumGoroutine") (h3 : fn.body.isSome = true) : FnB Try.prog f := ⟨fn, h, h2, h3⟩
/-- the table -/
noncomputable def eHas : Ent := ⟨23, goLI fun l n => ([], .bool (hasB l n), D2)⟩
def eDrop : Ent := ⟨37, goLI fun l n => ([l.length ≤ 1000000], .own 2, D3 (dropL l n))⟩
def ePut : Ent := ⟨28, goLI fun l n => ([l.length ≤ 1000000], .own 2, D3 (putL l n))⟩
noncomputable def eRMay : Ent := ⟨13, goC fun c => ([], .bool (mayB c), D2)⟩
noncomputable def eWithout : Ent := ⟨35, goLI fun l n => ([l.length ≤ 1000000], .tup [.own 2, .int .i64 (withoutR l n).1], D3 (withoutR l n).2)⟩
noncomputable def eWith : Ent := ⟨36, goLI fun l n => ([l.length ≤ 1000000], .tup [.own 2, .int .i64 (withR l n).1], D3 (withR l n).2)⟩
noncomputable def eMay : Ent := ⟨26, goC fun c => ([SmallC c], .bool (mayB c), D2)⟩
def eMHas : Ent := ⟨33, goCI fun c n => ([], .tup [.bool (hasB c.voters n), .bool (hasB c.learners n)], D2)⟩
noncomputable def eLarge : Ent := ⟨7, goC fun c => ([], .bool (largeC c), D2)⟩
def eConfigs : Ent := ⟨19, goCC fun c d => ([], .bool (eqC c d), D2)⟩
noncomputable def eCheck : Ent := ⟨9, goC fun c => ([SmallC c], .int .i64 (errM (mayB c)), D2)⟩
noncomputable def eVoter : Ent := ⟨17, goCI fun c n => ([SmallC c], .bool (voterB c n), D2)⟩
noncomputable def eReached : Ent := ⟨15, goCL fun c l => ([SmallC c], .bool (mreachB c l), D2)⟩
noncomputable def eAll : Ent := ⟨10, goC fun c => ([SmallC c], .own 2, D3 (allL c))⟩
def eInts : Ent := ⟨11, goLL fun l k => ([], .bool (eqB l k), D2)⟩
def eAsks : Ent := ⟨14, fun | [] => some ([], .bool true, D2) | _ => none⟩
def eOne : Ent := ⟨30, fun | [] => some ([], .agg (oneC.svs [1]), D2) | _ => none⟩
def eSnap : Ent := ⟨8, fun
  | [.agg cs] => match Snap.of cs with | some (x, _) => some ([SmallC x.config], .agg (x.svs [1]), D2) | none => none
  | _ => none⟩
theorem SlI.i64' {w : World} {S : Nat → Prop} {a : Option Addr} {n c : Nat} {xs : List Int} (h : SlI w S a n c xs) : ∀ x ∈ xs, I64 x := h.i64
theorem eRMay_ok : EntOk Try.prog eRMay := goC_ok (fnB Try.func13 (by decide) rfl) fun cs c m hc hn => FnC.of_bool (fnB Try.func13 (by decide) rfl) fun w S vals hd => by
  obtain ⟨v, rfl, h1⟩ := one_arg hd
  obtain ⟨xs, rfl, h2⟩ := arg_cfg hc h1
  exact rmay_any xs c w S h2
theorem eMay_ok : EntOk Try.prog eMay := goC_ok (fnB Try.func26 (by decide) rfl) fun cs c m hc hn => FnC.of_bool (fnB Try.func26 (by decide) rfl) fun w S vals hd => by
  obtain ⟨v, rfl, h1⟩ := one_arg hd
  obtain ⟨xs, rfl, h2⟩ := arg_cfg hc h1
  exact may_any xs c w S h2 (bEach hn)
theorem eLarge_ok : EntOk Try.prog eLarge := goC_ok (fnB Try.func7 (by decide) rfl) fun cs c m hc hn => FnC.of_bool (fnB Try.func7 (by decide) rfl) fun w S vals hd => by
  obtain ⟨v, rfl, h1⟩ := one_arg hd
  obtain ⟨xs, rfl, h2⟩ := arg_cfg hc h1
  exact largeC_any xs c w S h2
theorem eVoter_ok : EntOk Try.prog eVoter := goCI_ok (fnB Try.func17 (by decide) rfl) fun cs c m n hc hn => FnC.of_bool (fnB Try.func17 (by decide) rfl) fun w S vals hd => by
  obtain ⟨v, u, rfl, h1, h3⟩ := two_arg hd
  obtain ⟨xs, rfl, h2⟩ := arg_cfg hc h1
  obtain ⟨rfl, _⟩ := h3
  exact mvoter_any xs c n w S h2 (bEach hn)
theorem eMHas_ok : EntOk Try.prog eMHas := goCI_ok (fnB Try.func33 (by decide) rfl) fun cs c m n hc hn => FnC.of_below (fnB Try.func33 (by decide) rfl) fun w S vals hd => by
  obtain ⟨v, u, rfl, h1, h3⟩ := two_arg hd
  obtain ⟨xs, rfl, h2⟩ := arg_cfg hc h1
  obtain ⟨rfl, _⟩ := h3
  refine (mhas_any xs c n w S h2).mono ?_
  rintro e w' ⟨rfl, hb⟩
  exact ⟨_, rfl, hb, [.bool (hasB c.voters n), .bool (hasB c.learners n)], rfl, rfl, rfl, trivial⟩
theorem eCheck_ok : EntOk Try.prog eCheck := goC_ok (fnB Try.func9 (by decide) rfl) fun cs c m hc hn => FnC.of_int (fnB Try.func9 (by decide) rfl) (by unfold errM; split <;> decide) fun w S vals hd => by
  obtain ⟨v, rfl, h1⟩ := one_arg hd
  obtain ⟨xs, rfl, h2⟩ := arg_cfg hc h1
  exact mcheck_any xs c w S h2 (bEach hn)
theorem eReached_ok : EntOk Try.prog eReached := goCL_ok (fnB Try.func15 (by decide) rfl) fun cs s c l m k hc hs hn => FnC.of_bool (fnB Try.func15 (by decide) rfl) fun w S vals hd => by
  obtain ⟨v, u, rfl, h1, h3⟩ := two_arg hd
  obtain ⟨xs, rfl, h2⟩ := arg_cfg hc h1
  obtain ⟨a, cc, rfl, h4⟩ := arg_ints hs h3
  exact mreached_any xs c a _ cc l w S S h2 (bEach hn) h4
theorem eConfigs_ok : EntOk Try.prog eConfigs := goCC_ok (fnB Try.func19 (by decide) rfl) fun cs ds c d m k hc hd' hn => FnC.of_bool (fnB Try.func19 (by decide) rfl) fun w S vals hd => by
  obtain ⟨v, u, rfl, h1, h3⟩ := two_arg hd
  obtain ⟨xs, rfl, h2⟩ := arg_cfg hc h1
  obtain ⟨us, rfl, h4⟩ := arg_cfg hd' h3
  exact configs_any xs us c d w S S h2 h4
theorem eHas_ok : EntOk Try.prog eHas := goLI_ok (fnB Try.func23 (by decide) rfl) fun s l m n hs hn => FnC.of_bool (fnB Try.func23 (by decide) rfl) fun w S vals hd => by
  obtain ⟨v, u, rfl, h1, h3⟩ := two_arg hd
  obtain ⟨a, c, rfl, h2⟩ := arg_ints hs h1
  obtain ⟨rfl, _⟩ := h3
  refine (rhas_any a _ c l n w (IntSl.ofSl h2)).mono ?_
  rintro e w' ⟨rfl, rfl⟩
  exact ⟨rfl, Below.refl _ _⟩
theorem eDrop_ok : EntOk Try.prog eDrop := goLI_ok (fnB Try.func37 (by decide) rfl) fun s l m n hs hn => FnC.of_own (fnB Try.func37 (by decide) rfl) fun w S vals hd => by
  obtain ⟨v, u, rfl, h1, h3⟩ := two_arg hd
  obtain ⟨a, c, rfl, h2⟩ := arg_ints hs h1
  obtain ⟨rfl, _⟩ := h3
  have hl := bEach hn
  exact ⟨fun x hx => h2.i64 x (dropL_mem.1 hx).1, drop_any a _ c l n w (IntSl.ofSl h2) (by omega)⟩
theorem ePut_ok : EntOk Try.prog ePut := goLI_ok (fnB Try.func28 (by decide) rfl) fun s l m n hs hn => FnC.of_own (fnB Try.func28 (by decide) rfl) fun w S vals hd => by
  obtain ⟨v, u, rfl, h1, h3⟩ := two_arg hd
  obtain ⟨a, c, rfl, h2⟩ := arg_ints hs h1
  obtain ⟨rfl, h4⟩ := arg_int h3
  have hl := bEach hn
  exact ⟨fun x hx => (putL_mem.1 hx).elim (fun e => e ▸ h4) (h2.i64 x), put_any a _ c l n w (IntSl.ofSl h2) (by omega)⟩
theorem withoutR_in {l : List Int} {n : Int} (h : ∀ x ∈ l, I64 x) : ∀ x ∈ (withoutR l n).2, I64 x := by
  intro x hx
  unfold withoutR at hx
  split at hx
  · exact h x (dropL_mem.1 hx).1
  · cases hx
theorem withR_in {l : List Int} {n : Int} (h : ∀ x ∈ l, I64 x) (hn : I64 n) : ∀ x ∈ (withR l n).2, I64 x := by
  intro x hx
  unfold withR at hx
  split at hx
  · rcases cutR_or (putL l n) with ⟨_, _, e⟩ | ⟨_, _, e⟩
    · rw [e] at hx; exact (putL_mem.1 hx).elim (fun e => e ▸ hn) (h x)
    · rw [e] at hx; cases hx
  · cases hx
theorem withoutR_wf (l : List Int) (n : Int) : (Lit.int .i64 (withoutR l n).1).wf = true := by unfold withoutR; split <;> rfl
theorem withR_wf (l : List Int) (n : Int) : (Lit.int .i64 (withR l n).1).wf = true := by
  unfold withR
  split
  · rcases cutR_or (putL l n) with ⟨_, e, _⟩ | ⟨_, e, _⟩ <;> rw [e] <;> decide
  · decide
theorem eWithout_ok : EntOk Try.prog eWithout := goLI_ok (fnB Try.func35 (by decide) rfl) fun s l m n hs hn => FnC.of_set (fnB Try.func35 (by decide) rfl) (withoutR_wf l n) fun w S vals hd => by
  obtain ⟨v, u, rfl, h1, h3⟩ := two_arg hd
  obtain ⟨a, c, rfl, h2⟩ := arg_ints hs h1
  obtain ⟨rfl, h4⟩ := arg_int h3
  have hl := bEach hn
  exact ⟨withoutR_in h2.i64, without_c a _ c l n w (IntSl.ofSl h2) (by omega)⟩
theorem eWith_ok : EntOk Try.prog eWith := goLI_ok (fnB Try.func36 (by decide) rfl) fun s l m n hs hn => FnC.of_set (fnB Try.func36 (by decide) rfl) (withR_wf l n) fun w S vals hd => by
  obtain ⟨v, u, rfl, h1, h3⟩ := two_arg hd
  obtain ⟨a, c, rfl, h2⟩ := arg_ints hs h1
  obtain ⟨rfl, h4⟩ := arg_int h3
  have hl := bEach hn
  exact ⟨withR_in h2.i64 h4, with_c a _ c l n w (IntSl.ofSl h2) (nil_cap h2) (by omega) h4⟩
theorem allL_in {c : Config} {xs : List Value} {w : World} {S : Nat → Prop} (h : RdL w S Config.ty xs c.enc) : ∀ x ∈ allL c, I64 x := by
  obtain ⟨a0, c0, a1, c1, rfl, s0, s1⟩ := Config.opens h
  intro x hx
  unfold allL at hx
  split at hx
  · exact bothL_bd s0.i64 s1.i64 x hx
  · cases hx
theorem eAll_ok : EntOk Try.prog eAll := goC_ok (fnB Try.func10 (by decide) rfl) fun cs c m hc hn => FnC.of_own (fnB Try.func10 (by decide) rfl) fun w S vals hd => by
  obtain ⟨v, rfl, h1⟩ := one_arg hd
  obtain ⟨xs, rfl, h2⟩ := arg_cfg hc h1
  exact ⟨allL_in h2, mall_any xs c w S h2 (bEach hn)⟩
theorem eAsks_ok : EntOk Try.prog eAsks := ⟨fnB Try.func14 (by decide) rfl, fun ins n out mo hg hn => by
  cases ins with
  | cons a r => simp [eAsks] at hg
  | nil =>
    simp only [eAsks, Option.some.injEq, Prod.mk.injEq] at hg
    obtain ⟨rfl, rfl, rfl⟩ := hg
    refine FnC.of_bool (fnB Try.func14 (by decide) rfl) fun w S vals hd => ?_
    match vals, hd with
    | [], _ => exact masks_any w⟩
theorem eOne_ok : EntOk Try.prog eOne := ⟨fnB Try.func30 (by decide) rfl, fun ins n out mo hg hn => by
  cases ins with
  | cons a r => simp [eOne] at hg
  | nil =>
    simp only [eOne, Option.some.injEq, Prod.mk.injEq] at hg
    obtain ⟨rfl, rfl, rfl⟩ := hg
    refine FnC.of_agg (fnB Try.func30 (by decide) rfl) (fun E w vs h => Config.svs_of h) fun w S vals hd => ?_
    match vals, hd with
    | [], _ => exact oneC_any w⟩
theorem eSnap_ok : EntOk Try.prog eSnap := ⟨fnB Try.func8 (by decide) rfl, fun ins n out mo hg hn => by
  simp only [eSnap] at hg
  split at hg
  case h_2 => simp at hg
  split at hg
  case h_2 => simp at hg
  rename_i cs _ x m hc
  simp only [Option.some.injEq, Prod.mk.injEq] at hg
  obtain ⟨rfl, rfl, rfl⟩ := hg
  refine FnC.of_agg (fnB Try.func8 (by decide) rfl) (fun E w vs h => Snap.svs_of h) fun w S vals hd => ?_
  obtain ⟨v, rfl, h1⟩ := one_arg hd
  obtain ⟨xs, rfl, h2⟩ := arg_snap hc h1
  have := bEach hn
  exact snap_any xs x w S h2 this.1 this.2⟩
theorem eInts_ok : EntOk Try.prog eInts := goLL_ok (fnB Try.func11 (by decide) rfl) fun s t l k m m' hs ht hn => FnC.of_bool (fnB Try.func11 (by decide) rfl) fun w S vals hd => by
  obtain ⟨v, u, rfl, h1, h3⟩ := two_arg hd
  obtain ⟨a, c, rfl, h2⟩ := arg_ints hs h1
  obtain ⟨b, d, rfl, h4⟩ := arg_ints ht h3
  refine (ints_any a b _ _ c d l k w (IntSl.ofSl h2) (IntSl.ofSl h4)).mono ?_
  rintro e w' ⟨rfl, q, rfl⟩
  exact ⟨rfl, bdrewN (Below.refl _ _) _⟩
end Go.Proofs.Ytejahcpnbkegfaa
