/- Parts of the proof, joined: the symbolic walk and what it is told of each function. Condition: as each theorem says. -/
import Derived.SizedLaws
import Derived.Test.YteabcgkjbnecaaaGreatJq6
set_option linter.unusedVariables false
set_option linter.unusedSimpArgs false
set_option linter.unusedSectionVars false
namespace Go.Proofs.YteabcgkjbnecaaaGreat
open Go.RowKit Go.ChangeShapes Go.WideShapes Go.Deep
set_option maxRecDepth 100000
noncomputable def tabRp1 : List Ent := [eROfY, eRNo, eRAdd, eRAll18]
theorem tabRp1_ok : ∀ e ∈ tabRp1, EntOk Tryz.prog e := tab_cons eROfY_ok (tab_cons eRNo_ok (tab_cons eRAdd_ok (tab_cons eRAll18_ok tab_nil)))
theorem rproposeN_fn (n : Node) (data : ByteArray) (hn : SmallN n) (hr : rightC n = false) : FnC Tryz.prog 37 [dNode.can n, dStr.can data] (refO zeroN outZ 1) D3d := by
 refine FnG.of_vc (fitsT tabRu0_ok fun _ => none) Tryz.func37 rfl (by decide) rfl 300 (p := fun (V : List PE → Prop) => let v0 := Node.commit zeroN; let v1 := Node.kept zeroN; let v2 := Node.elapsed zeroN; let v3 := Out.messages outZ; let v4 := Kept.term v1; let v5 := Kept.vote v1; let v6 := Kept.entries v1; let v7 := Kept.snap v1; let v8 := Snap.data v7; let v9 := Snap.config v7; let v10 := Snap.term v7; let v11 := Snap.index v7; let v12 := Config.voters v9; let v13 := Config.learners v9; let v14 := (↑(ByteArray.size data) : Int); let v15 := (1 : Int); let v16 := (↑(List.length (Kept.entries (Node.kept n))) : Int); let v17 := Node.role n != (4 : Int); let v18 := v15 != (0 : Int); let v19 := decide (v14 > (60000 : Int)); let v20 := pickB v19 true (decide (v16 ≥ (9000 : Int))); True ∧ (SmallN n ∧ rightC n = false ∧ True) ∧ True ∧ True ∧ (v18 = true → True ∧ Node.id zeroN = Node.id zeroN ∧ Node.role zeroN = Node.role zeroN ∧ v4 = v4 ∧ v5 = v5 ∧ v11 = v11 ∧ v10 = v10 ∧ v12 = v12 ∧ v13 = v13 ∧ v8 = v8 ∧ v6 = v6 ∧ v0 = v0 ∧ Node.lead zeroN = Node.lead zeroN ∧ v2 = v2 ∧ Node.yes zeroN = Node.yes zeroN ∧ Node.peers zeroN = Node.peers zeroN ∧ Node.round zeroN = Node.round zeroN ∧ Node.reads zeroN = Node.reads zeroN ∧ Out.records outZ = Out.records outZ ∧ v3 = v3 ∧ Out.ready outZ = Out.ready outZ ∧ Out.lost outZ = Out.lost outZ ∧ v15 = v15 ∧ True) ∧ (v18 = false → True ∧ True ∧ (v17 = true → True ∧ Node.id zeroN = Node.id zeroN ∧ Node.role zeroN = Node.role zeroN ∧ v4 = v4 ∧ v5 = v5 ∧ v11 = v11 ∧ v10 = v10 ∧ v12 = v12 ∧ v13 = v13 ∧ v8 = v8 ∧ v6 = v6 ∧ v0 = v0 ∧ Node.lead zeroN = Node.lead zeroN ∧ v2 = v2 ∧ Node.yes zeroN = Node.yes zeroN ∧ Node.peers zeroN = Node.peers zeroN ∧ Node.round zeroN = Node.round zeroN ∧ Node.reads zeroN = Node.reads zeroN ∧ Out.records outZ = Out.records outZ ∧ v3 = v3 ∧ Out.ready outZ = Out.ready outZ ∧ Out.lost outZ = Out.lost outZ ∧ (170 : Int) = v15 ∧ True) ∧ (v17 = false → (((!v19) = true → (!v19) = true) ∧ ((!v19) = true → (!v19) = true) ∧ ((!v19) = true → (!v19) = true) ∧ ((!v19) = true → (!v19) = true) ∧ (v19 = false → (!v19) = true) ∧ True) ∧ True ∧ (v20 = true → True ∧ Node.id zeroN = Node.id zeroN ∧ Node.role zeroN = Node.role zeroN ∧ v4 = v4 ∧ v5 = v5 ∧ v11 = v11 ∧ v10 = v10 ∧ v12 = v12 ∧ v13 = v13 ∧ v8 = v8 ∧ v6 = v6 ∧ v0 = v0 ∧ Node.lead zeroN = Node.lead zeroN ∧ v2 = v2 ∧ Node.yes zeroN = Node.yes zeroN ∧ Node.peers zeroN = Node.peers zeroN ∧ Node.round zeroN = Node.round zeroN ∧ Node.reads zeroN = Node.reads zeroN ∧ Out.records outZ = Out.records outZ ∧ v3 = v3 ∧ Out.ready outZ = Out.ready outZ ∧ Out.lost outZ = Out.lost outZ ∧ (2 : Int) = v15 ∧ True) ∧ (v20 = false → False)))) (by kernel_rfl) ?_
 simp only [imp_self, implies_true, true_and, and_true, pickB_f, pickB_t]
 exact ⟨⟨hn, hr⟩, fun h => absurd h (by decide)⟩
theorem right_nodup {n : Node} (h : rightC n = true) (h4 : n.role = 4) : (n.peers.map (·.node)).Nodup := by
 have g := (right_iff.1 h).rest
 rw [if_pos h4, peersB] at g
 simp only [Bool.and_eq_true, decide_eq_true_eq] at g
 rw [g.1.1]
 exact others_nodup n
theorem rproposeY_fn (n : Node) (data : ByteArray) (hf : Few 50000 (stepZ n)) (hr : rightC n = true) : FnC Tryz.prog 37 [dNode.can n, dStr.can data] (refO (propC n data).1.n (propC n data).1.o (propC n data).2) D3d := by
 refine FnG.of_vc (fitsT tabRp1_ok fun _ => none) Tryz.func37 rfl (by decide) rfl 300 (p := fun (V : List PE → Prop) => let v0 := Node.kept zeroN; let v1 := Kept.snap v0; let v2 := Snap.config v1; let v3 := (↑(ByteArray.size data) : Int); let v4 := (0 : Int); let v5 := Prod.fst (propC n data); let v6 := Prod.snd (propC n data); let v7 := Step.o v5; let v8 := Step.n v5; let v9 := Out.records v7; let v10 := Node.reads v8; let v11 := Node.id v8; let v12 := (↑(List.length (Kept.entries (Node.kept n))) : Int); let v13 := Node.role v8; let v14 := Node.lead v8; let v15 := Node.yes v8; let v16 := Node.round v8; let v17 := Node.peers v8; let v18 := Node.kept v8; let v19 := Out.lost v7; let v20 := Node.commit v8; let v21 := Node.elapsed v8; let v22 := Out.ready v7; let v23 := Out.messages v7; let v24 := Kept.vote v18; let v25 := Kept.term v18; let v26 := Kept.snap v18; let v27 := Kept.entries v18; let v28 := Snap.config v26; let v29 := Snap.index v26; let v30 := Snap.term v26; let v31 := Snap.data v26; let v32 := Step.mk n (Out.mk [] [] [] []); let v33 := Config.voters v28; let v34 := Config.learners v28; let v35 := Node.role n != (4 : Int); let v36 := v4 != v4; let v37 := decide (v3 > (60000 : Int)); let v38 := addS v32 (Entry.mk v4 v4 3 (Config.mk [] []) data); let v39 := Step.n v38; let v40 := allS v38; let v41 := Step.o v40; let v42 := Step.n v40; let v43 := Node.peers v42; let v44 := Out.records v41; let v45 := Out.lost v41; let v46 := Out.messages v41; let v47 := Out.ready v41; let v48 := Node.kept v42; let v49 := Node.reads v42; let v50 := Node.yes v42; let v51 := Kept.snap v48; let v52 := Snap.config v51; let v53 := pickB v37 true (decide (v12 ≥ (9000 : Int))); True ∧ (SmallN n ∧ rightC n = true ∧ True) ∧ True ∧ True ∧ (v36 = true → True ∧ Node.id zeroN = v11 ∧ Node.role zeroN = v13 ∧ Kept.term v0 = v25 ∧ Kept.vote v0 = v24 ∧ Snap.index v1 = v29 ∧ Snap.term v1 = v30 ∧ Config.voters v2 = v33 ∧ Config.learners v2 = v34 ∧ Snap.data v1 = v31 ∧ Kept.entries v0 = v27 ∧ Node.commit zeroN = v20 ∧ Node.lead zeroN = v14 ∧ Node.elapsed zeroN = v21 ∧ Node.yes zeroN = v15 ∧ Node.peers zeroN = v17 ∧ Node.round zeroN = v16 ∧ Node.reads zeroN = v10 ∧ Out.records outZ = v9 ∧ Out.messages outZ = v23 ∧ Out.ready outZ = v22 ∧ Out.lost outZ = v19 ∧ v4 = v6 ∧ True) ∧ (v36 = false → True ∧ True ∧ (v35 = true → True ∧ Node.id zeroN = v11 ∧ Node.role zeroN = v13 ∧ Kept.term v0 = v25 ∧ Kept.vote v0 = v24 ∧ Snap.index v1 = v29 ∧ Snap.term v1 = v30 ∧ Config.voters v2 = v33 ∧ Config.learners v2 = v34 ∧ Snap.data v1 = v31 ∧ Kept.entries v0 = v27 ∧ Node.commit zeroN = v20 ∧ Node.lead zeroN = v14 ∧ Node.elapsed zeroN = v21 ∧ Node.yes zeroN = v15 ∧ Node.peers zeroN = v17 ∧ Node.round zeroN = v16 ∧ Node.reads zeroN = v10 ∧ Out.records outZ = v9 ∧ Out.messages outZ = v23 ∧ Out.ready outZ = v22 ∧ Out.lost outZ = v19 ∧ (170 : Int) = v6 ∧ True) ∧ (v35 = false → (((!v37) = true → (!v37) = true) ∧ ((!v37) = true → (!v37) = true) ∧ ((!v37) = true → (!v37) = true) ∧ ((!v37) = true → (!v37) = true) ∧ (v37 = false → (!v37) = true) ∧ True) ∧ True ∧ (v53 = true → True ∧ Node.id zeroN = v11 ∧ Node.role zeroN = v13 ∧ Kept.term v0 = v25 ∧ Kept.vote v0 = v24 ∧ Snap.index v1 = v29 ∧ Snap.term v1 = v30 ∧ Config.voters v2 = v33 ∧ Config.learners v2 = v34 ∧ Snap.data v1 = v31 ∧ Kept.entries v0 = v27 ∧ Node.commit zeroN = v20 ∧ Node.lead zeroN = v14 ∧ Node.elapsed zeroN = v21 ∧ Node.yes zeroN = v15 ∧ Node.peers zeroN = v17 ∧ Node.round zeroN = v16 ∧ Node.reads zeroN = v10 ∧ Out.records outZ = v9 ∧ Out.messages outZ = v23 ∧ Out.ready outZ = v22 ∧ Out.lost outZ = v19 ∧ (2 : Int) = v6 ∧ True) ∧ (v53 = false → (Few 80000 v32 ∧ SmallD (Config.mk [] []) ∧ LogG (Node.kept n) ∧ List.Nodup (List.map (fun (x : Peer) => Peer.node x) (Node.peers n)) ∧ True) ∧ (SmallN v39 ∧ List.length (Out.messages (Step.o v38)) + List.length (Node.peers v39) ≤ 1000000 ∧ True) ∧ True ∧ Node.id v42 = v11 ∧ Node.role v42 = v13 ∧ Kept.term v48 = v25 ∧ Kept.vote v48 = v24 ∧ Snap.index v51 = v29 ∧ Snap.term v51 = v30 ∧ Config.voters v52 = v33 ∧ Config.learners v52 = v34 ∧ Snap.data v51 = v31 ∧ Kept.entries v48 = v27 ∧ Node.commit v42 = v20 ∧ Node.lead v42 = v14 ∧ Node.elapsed v42 = v21 ∧ v50 = v15 ∧ List.length v50 ≤ 17592186044416 ∧ v43 = v17 ∧ List.length v43 ≤ 17592186044416 ∧ Node.round v42 = v16 ∧ v49 = v10 ∧ List.length v49 ≤ 17592186044416 ∧ v44 = v9 ∧ List.length v44 ≤ 17592186044416 ∧ v46 = v23 ∧ List.length v46 ≤ 17592186044416 ∧ v47 = v22 ∧ List.length v47 ≤ 17592186044416 ∧ v45 = v19 ∧ List.length v45 ≤ 17592186044416 ∧ v4 = v6 ∧ True)))) (by kernel_rfl) ?_
 simp only [imp_self, implies_true, true_and, and_true, pickB_f, pickB_t]
 have k0 : Few 50000 (stepZ n) := hf
 have k1 := k0.lay (e := opE data) smallD0
 have k2 := k1.count
 have k3 := k2.all
 obtain ⟨b1, b2, b3, b4, b5⟩ := (k3.sn (by decide)).ls
 obtain ⟨c1, c2, c3, c4⟩ := (k3.so (by decide)).ls
 refine ⟨⟨hf.sn (by decide), hr⟩, fun h => absurd h (by decide), fun _ => ⟨fun h => ?_, fun h4 => ⟨fun h => (by rw [h]; rfl), fun h => ?_, fun h => ?_⟩⟩⟩
 ·have h : ¬ n.role = 4 := by simpa using h
  have he : leadE n = 170 := by rw [leadE, if_pos hr, if_neg h]
  have e : propC n data = (⟨zeroN, outZ⟩, 170) := by rw [propC, if_pos (by rw [he]; decide), he]
  rw [e]
  repeat' apply And.intro
  all_goals rfl
 ·have h4 : n.role = 4 := by simpa using h4
  have he : leadE n = 0 := by rw [leadE, if_pos hr, if_pos h4]
  have h : 60000 < (data.size : Int) ∨ 9000 ≤ (n.kept.entries.length : Int) := by
   simp only [Bool.or_eq_true, decide_eq_true_eq] at h
   exact h
  have e : propC n data = (⟨zeroN, outZ⟩, 2) := by rw [propC, if_neg (by rw [he]; decide), if_pos h]
  rw [e]
  repeat' apply And.intro
  all_goals rfl
 ·have h4 : n.role = 4 := by simpa using h4
  have he : leadE n = 0 := by rw [leadE, if_pos hr, if_pos h4]
  have h : ¬ (60000 < (data.size : Int) ∨ 9000 ≤ (n.kept.entries.length : Int)) := by
   simp only [Bool.or_eq_false_iff, decide_eq_false_iff_not] at h
   rintro (h2 | h2)
   ·exact h.1 h2
   ·exact h.2 h2
  have e : propC n data = (propS n data, 0) := by rw [propC, if_neg (by rw [he]; decide), if_neg h]
  rw [e]
  refine ⟨⟨k0.mono (by decide), smallD0, (right_log hr).1, right_nodup hr h4⟩, ⟨k2.sn (by decide), ?_⟩, ?_⟩
  ·have h1 := k2.messages
   have h2 := k2.peers
   exact Nat.le_trans (Nat.add_le_add h1 h2) (by decide)
  ·repeat' apply And.intro
   all_goals first | rfl | assumption
theorem rpropose_fn (n : Node) (data : ByteArray) (hf : Few 50000 (stepZ n)) : FnC Tryz.prog 37 [dNode.can n, dStr.can data] (refO (propC n data).1.n (propC n data).1.o (propC n data).2) D3d := by
 cases hr : rightC n
 ·have he : leadE n = 1 := by rw [leadE, hr]; rfl
  rw [propC, if_pos (by rw [he]; decide), he]
  exact rproposeN_fn n data (hf.sn (by decide)) hr
 ·exact rproposeY_fn n data hf hr
def eProposes : Ent := ent0 38 ([], .bool true, D2)
theorem eProposes_ok : EntOk Tryz.prog eProposes := ent0_ok proposes_fn.1 fun _ => proposes_fn
def eRPropose : Ent := ent2 37 dNode dStr fun n d => ([Few 50000 (stepZ n)], refO (propC n d).1.n (propC n d).1.o (propC n d).2, D3d)
theorem eRPropose_ok : EntOk Tryz.prog eRPropose := ent2_ok (fnB Tryz.func37 (by decide) rfl) fun n d h => rpropose_fn n d (h _ (by simp))
noncomputable def tabDp : List Ent := [eLarge, eROwnF, ePropose, eRPropose, eProposes]
theorem tabDp_ok : ∀ e ∈ tabDp, EntOk Tryz.prog e := tab_cons eLarge_ok (tab_cons eROwnF_ok (tab_cons ePropose_ok (tab_cons eRPropose_ok (tab_cons eProposes_ok tab_nil))))
theorem raftProposes_fn (n : Node) (data : ByteArray) : FnC Tryz.prog 7 [dNode.can n, dStr.can data] (.bool true) D2 := by
 refine FnG.of_vc_tail (fitsU tabDp_ok wtab_nil ttabD_ok fun _ => none) Tryz.func7 rfl (by decide) (by kernel_rfl) rfl 300 27 (p := fun (V : List PE → Prop) => let v0 := (0 : Int); let v1 := Prod.snd (propC n data); let v2 := Prod.fst (propC n data); let v3 := Step.o v2; let v4 := Step.n v2; let v5 := largeN n (Message.mk v0 v0 v0 v0 v0 v0 [] v0 v0 false (Snap.mk v0 v0 (Config.mk [] []) (ByteArray.mk #[])) v0 v0 (ByteArray.mk #[])); True ∧ True ∧ True ∧ (v5 = true → True ∧ true = true ∧ True) ∧ (v5 = false → (SmallN n ∧ True) ∧ (Few 50000 (stepZ n) ∧ True) ∧ (Few 50000 (stepZ n) ∧ True) ∧ (true = true ∧ true = true ∧ true = true ∧ true = true ∧ true = true ∧ true = true ∧ true = true ∧ true = true ∧ True) ∧ true = true ∧ True ∧ pickB true (toldB v4 v3 v1 v4 v3 v1 n n) false = true ∧ True)) (by kernel_rfl) ?_
 simp only [imp_self, implies_true, true_and, and_true, pickB_f, pickB_t]
 intro h
 have hf := (few_of h).mono (show 5000 ≤ 50000 by decide)
 refine ⟨hf.sn (by decide), hf, hf, ?_⟩
 simp [toldB]
theorem str_bd {w : World} {S : Nat → Prop} {s : ByteArray} {d : D} (h : Rd w S .str (.string s) d) : s.size ≤ 140737488355328 := by
 cases h; assumption
theorem law_raftProposes (vs : List Value) (n : Node) (data : ByteArray) (w : World) (h : RdL w (fun b => b < w.heap.size) Node.ty vs n.enc) (hd : data.size ≤ 140737488355328) :
  Calls Tryz.prog 7 #[.agg vs.toArray, .string data] w fun e w' => e = .returned (.bool true) ∧ Below w.heap.size w w' :=
 law_of_fn (raftProposes_fn n data) w (fun b => b < w.heap.size) (fun _ hb => hb) [.agg vs.toArray, .string data] ⟨den_node h, ⟨rfl, hd⟩, trivial⟩
end Go.Proofs.YteabcgkjbnecaaaGreat
namespace Go.Proofs.YteabcgkjbnecaaaGreat
open Go.RowKit Go.ChangeShapes Go.WideShapes Go.Deep
def tiles (P : Program) (ts : List Ty) (ok : TypeId → List Ty → Bool) : Nat → List Field → Bool
 | o, [] => o == ts.length
 | o, f :: fs => f.offset == o && ok f.type ((ts.drop o).take (P.cellsOf f.type)) && decide (o + P.cellsOf f.type ≤ ts.length) && tiles P ts ok (o + P.cellsOf f.type) fs
def okTy (P : Program) : Nat → TypeId → List Ty → Bool
  | 0, _, _ => false
  | n + 1, t, ts => match P.underlying t with
    | some (.int k) => match ts with | [.int k'] => decide (k = k') | _ => false
    | some .bool => match ts with | [.bool] => true | _ => false
    | some .string => match ts with | [.str] => true | _ => false
    | some (.slice e) => match ts with | [.sl fs] => okTy P n e fs && P.cellsOf e == fs.length && decide (8 ≤ P.bytesOf e) && decide (0 < fs.length) | _ => false
    | some (.struct fs) => P.cellsOf t == ts.length && tiles P ts (okTy P n) 0 fs.toList
    | _ => false
theorem RdL.append {w : World} {S : Nat → Prop} : ∀ {ts us : List Ty} {vs xs : List Value} {ds es : List D}, RdL w S ts vs ds → RdL w S us xs es → RdL w S (ts ++ us) (vs ++ xs) (ds ++ es)
 | [], _, [], _, [], _, _, h => h
 | _ :: ts, _, _ :: vs, _, _ :: ds, _, h, k => ⟨h.1, RdL.append (ts := ts) (vs := vs) (ds := ds) h.2 k⟩
 | _ :: _, _, [], _, _, _, h, _ => h.elim
 | _ :: _, _, _ :: _, _, [], _, h, _ => h.elim
 | [], _, _ :: _, _, _, _, h, _ => h.elim
 | [], _, [], _, _ :: _, _, h, _ => h.elim
section
variable {H : Type} {enc : TypeId × Value → H} {P : Program} {w : World} {base : Nat} {spare : Nat → Bool} {held : Bool}
def Light (P : Program) (t : TypeId) (d : DataW H) : Prop := ∀ n ∈ d.weights P t, n ≤ reachBytes
theorem tiles_rd (ok : TypeId → List Ty → Bool) (ts : List Ty) (cs : List Value) (hcl : cs.length = ts.length) : ∀ (fs : List Field) (o : Nat), o ≤ ts.length → tiles P ts ok o fs = true →
    (∀ f ∈ fs, ∀ us, ok f.type us = true → ∃ ds, RdL w (fun b => b < w.heap.size) us ((cs.drop f.offset).take (P.cellsOf f.type)) ds) →
    ∃ ds, RdL w (fun b => b < w.heap.size) (ts.drop o) (cs.drop o) ds
  | [], o, ho, h, _ => by
    simp only [tiles, beq_iff_eq] at h
    subst h
    rw [List.drop_length, List.drop_eq_nil_of_le (by omega)]
    exact ⟨[], trivial⟩
  | f :: fs, o, ho, h, hf => by
    simp only [tiles, Bool.and_eq_true, beq_iff_eq, decide_eq_true_eq] at h
    obtain ⟨⟨⟨rfl, h2⟩, h3⟩, h4⟩ := h
    obtain ⟨d1, k1⟩ := hf f (List.mem_cons_self ..) _ h2
    obtain ⟨d2, k2⟩ := tiles_rd ok ts cs hcl fs _ h3 h4 (fun g hg => hf g (List.mem_cons_of_mem _ hg))
    refine ⟨d1 ++ d2, ?_⟩
    have e1 : ts.drop f.offset = (ts.drop f.offset).take (P.cellsOf f.type) ++ ts.drop (f.offset + P.cellsOf f.type) := by
      rw [← List.drop_drop, List.take_append_drop]
    have e2 : cs.drop f.offset = (cs.drop f.offset).take (P.cellsOf f.type) ++ cs.drop (f.offset + P.cellsOf f.type) := by
      rw [← List.drop_drop, List.take_append_drop]
    rw [e1, e2]
    exact RdL.append k1 k2
theorem weights_all {e : TypeId} : ∀ {l : List (DataW H)} {d : DataW H}, d ∈ l → ∀ n ∈ d.weights P e, n ∈ DataW.weightsAll P e l
  | x :: l, d, hd, n, hn => by
    simp only [DataW.weightsAll, List.mem_append]
    rcases List.mem_cons.1 hd with h | h
    · subst h; exact .inl hn
    · exact .inr (weights_all h n hn)
theorem rd_of_trod : ∀ (n : Nat) (t : TypeId) (ts : List Ty) (fuel : Nat) (cs : List Value) (x : DataW H × List MemPlace), okTy P n t ts = true → DataW.trod enc P w base spare held fuel t cs = some x → Light P t x.1 → w.noneFrozen x.2 →
    ∃ ds, RdL w (fun b => b < w.heap.size) ts cs ds
  | 0, _, _, _, _, _, h, _, _, _ => by simp [okTy] at h
  | n + 1, t, ts, fuel, cs, x, h, ht, hw, hz => by
    unfold okTy at h
    split at h
    · rename_i k hu
      split at h
      · rename_i k'
        have hk : k = k' := of_decide_eq_true h
        subst hk
        obtain ⟨m, rfl, _, hm⟩ := DataW.trod_int hu ht
        exact ⟨[.int m], .int hm, trivial⟩
      · cases h
    · rename_i hu
      split at h
      · obtain ⟨b, rfl, _⟩ := DataW.trod_bool hu ht
        exact ⟨[.bool b], .bool, trivial⟩
      · cases h
    · rename_i hu
      split at h
      · obtain ⟨s, rfl, rfl, _⟩ := DataW.trod_string hu ht
        have := hw s.data.toList.length (by simp [DataW.weights])
        refine ⟨[.str s], .str ?_, trivial⟩
        have e : s.data.toList.length = s.size := by rw [Array.length_toList]; rfl
        rw [e] at this
        unfold reachBytes at this
        omega
      · cases h
    · rename_i e hu
      split at h
      · rename_i fs
        simp only [Bool.and_eq_true, beq_iff_eq, decide_eq_true_eq] at h
        obtain ⟨⟨⟨h1, h2⟩, h3⟩, h4⟩ := h
        rcases open_slice hu ht with ⟨rfl, _⟩ | ⟨a, len, cap, m, n', Dd, Pl, rfl, hb, hl, hm, hmm, hx, hi⟩
        · exact ⟨[.sl []], .emp (fun _ => rfl) (by simp [maxLen]), trivial⟩
        · have hlm : len ≤ m := by rw [hmm]; split <;> omega
          have hx1 : x.1 = .slice ((List.range len).map Dd) ((List.range (m - len)).map fun j => Dd (len + j)) := by rw [hx]
          have hbd : len * 8 ≤ reachBytes := by
            have := hw ((((List.range len).map Dd).length + ((List.range (m - len)).map fun j => Dd (len + j)).length) * P.bytesOf e) (by rw [hx1]; simp [DataW.weights, hu])
            simp only [List.length_map, List.length_range] at this
            exact Nat.le_trans (Nat.mul_le_mul (by omega) h3) this
          have each : ∀ i, i < len → ∃ cs' ds, w.cells? base (a.add (i * P.cellsOf e)) (P.cellsOf e) = some cs' ∧ RdL w (fun b => b < w.heap.size) fs cs' ds := by
            intro i hi'
            obtain ⟨cs', hc, htt⟩ := hi i (by omega)
            obtain ⟨ds, hd⟩ := rd_of_trod n e fs n' cs' _ h1 htt (fun q hq => hw q (by
              rw [hx1]
              simp only [DataW.weights, hu, List.mem_cons, List.mem_append]
              exact .inr (.inl (weights_all (List.mem_map.2 ⟨i, List.mem_range.2 hi', rfl⟩) q hq)))) (fun b off hp => hz b off (by
              rw [hx]
              exact List.mem_append.2 (.inr (List.mem_flatMap.2 ⟨i, List.mem_range.2 (by omega), hp⟩))))
            exact ⟨cs', ds, hc, hd⟩
          by_cases hp : 0 < len
          · let C : Nat → List Value := fun i => if hh : i < len then Classical.choose (each i hh) else []
            let DD : Nat → List D := fun i => if hh : i < len then Classical.choose (Classical.choose_spec (each i hh)) else []
            have hC : ∀ i, i < len → w.cells? base (a.add (i * P.cellsOf e)) (P.cellsOf e) = some (C i) ∧ RdL w (fun b => b < w.heap.size) fs (C i) (DD i) := by
              intro i hh
              simp only [C, DD, hh, dif_pos]
              exact Classical.choose_spec (Classical.choose_spec (each i hh))
            have hcell : ∀ i j, i < len → j < fs.length → w.cell? ((a.add (i * fs.length)).add j) = some ((C i).getD j undef) := by
              intro i j hi' hj
              obtain ⟨c1, c2⟩ := hC i hi'
              rw [h2] at c1
              obtain ⟨_, hcl, hat⟩ := World.cells?_some c1
              rw [hat j hj]
              simp [List.getD, List.getElem?_eq_getElem (show j < (C i).length by omega)]
            have h00 := hcell 0 0 hp h4
            obtain ⟨b, off, spot⟩ := a
            have hspot : spot = none := by simpa [Addr.add] using World.cell?_spot h00
            subst hspot
            have hblk : b < w.heap.size := by
              have := World.block_lt_of_cell? _ _ h00
              simpa [Addr.add] using this
            refine ⟨[.sl ((List.range len).map DD)], .row (fun i j => (C i).getD j undef) hp (by simp) hl hm (by unfold reachBytes at hbd; omega) hblk hblk (fun i j hi' hj => ?_) (fun i hi' => ?_) (fun i j hi' hj => ?_) (fun i j hi' hj => ?_), trivial⟩
            · have := hcell i j hi' hj
              rwa [WideShapes.add_plain, WideShapes.add_plain] at this
            · have := (hC i hi').2.lens.2
              simpa [List.getD, hi'] using this
            · have := (hC i hi').2.at j hj
              simpa [List.getD, hi'] using this
            · refine hz b _ ?_
              rw [hx]
              refine List.mem_append.2 (.inl ?_)
              unfold MemPlace.row
              refine List.mem_map.2 ⟨i * fs.length + j, List.mem_range.2 ?_, by rw [Nat.add_assoc]⟩
              rw [h2]
              have h5 : (i + 1) * fs.length ≤ m * fs.length := Nat.mul_le_mul_right _ (by omega)
              rw [Nat.add_mul] at h5; omega
          · have h0 : len = 0 := by omega
            subst h0
            exact ⟨[.sl []], .emp (fun hh => by cases hh) hm, trivial⟩
      · cases h
    · rename_i fs hu
      simp only [Bool.and_eq_true, beq_iff_eq] at h
      obtain ⟨h1, h2⟩ := h
      obtain ⟨xs, n', _, hx, hcl, hxl, hall⟩ := DataW.trod_struct hu ht
      have := tiles_rd (P := P) (w := w) (okTy P n) ts cs (by omega) fs.toList 0 (Nat.zero_le _) h2 (fun f hf us hus => by
        obtain ⟨i, hi⟩ := List.getElem?_of_mem hf
        rw [Array.getElem?_toList] at hi
        have hilt : i < fs.size := (Array.getElem?_eq_some_iff.1 hi).1
        have h3 := hall i f hi
        rw [List.getElem?_eq_getElem (show i < xs.length by omega)] at h3
        refine rd_of_trod n f.type us n' _ _ hus h3 (fun q hq => hw q ?_) (fun b off hp => hz b off (by
          rw [hx]
          exact List.mem_flatMap.2 ⟨_, List.getElem_mem (show i < xs.length by omega), hp⟩))
        rw [hx]
        simp only [DataW.weights, hu]
        refine DataW.weights_mem_each (j := i) (t := f.type) (d := xs[i].1) ?_ ?_ q hq
        · rw [List.getElem?_map, Array.getElem?_toList, hi]; rfl
        · rw [List.getElem?_map, List.getElem?_eq_getElem (show i < xs.length by omega)]; rfl)
      simpa using this
    · cases h
theorem rd_arg {t : TypeId} {ts : List Ty} {v : Value} {d : DataW H} {p : List MemPlace} (n : Nat) (hok : okTy P n t ts = true) (h : DataW.Trod enc P w base spare held t v d p) (hw : Light P t d) (hz : w.noneFrozen p) : ∃ ds, RdL w (fun b => b < w.heap.size) ts v.cells.toList ds := by
 obtain ⟨fuel, hf⟩ := h
 exact rd_of_trod n t ts fuel _ _ hok hf hw hz
theorem light_of {tys : List TypeId} {ds : List (DataW H)} (h : (DataW.weightsEach P tys ds).all (· ≤ reachBytes) = true) {j : Nat} {t : TypeId} {d : DataW H} (ht : tys[j]? = some t) (hd : ds[j]? = some d) : Light P t d := fun n hn => by
 simpa using List.all_eq_true.1 h n (DataW.weights_mem_each ht hd n hn)
theorem agg_of {t : TypeId} {fs : Array Field} {v : Value} {r : Reach} {b0 : Nat} (hs : P.underlying t = some (.struct fs)) (hv : Value.okWide P w r b0 t v) : v = .agg v.cells.toList.toArray := by
 obtain ⟨cs, rfl, _⟩ := okWide_struct hs hv
 rfl
end
end Go.Proofs.YteabcgkjbnecaaaGreat
