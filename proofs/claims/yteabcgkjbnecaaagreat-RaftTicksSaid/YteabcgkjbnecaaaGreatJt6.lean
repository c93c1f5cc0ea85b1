/- Parts of the proof, joined: the symbolic walk and what it is told of each function. Condition: as each theorem says. -/
import Derived.SizedLaws
import Derived.Test.YteabcgkjbnecaaaGreatJt5
namespace Go.Proofs.YteabcgkjbnecaaaGreat
open Go.RowKit Go.ChangeShapes Go.WideShapes Go.Deep
set_option linter.unusedVariables false
set_option linter.unusedSimpArgs false
set_option maxRecDepth 100000
theorem rvoteW_fn (s : Step) (t v : Int) (hl : s.o.records.length ≤ 1000000) (hk : SmallK s.n.kept) (hf : foldOk s.n.kept (voteW t v)) : FnG Tryz.prog 190 3 (sMi 125 s) [.ptr 2 0, dInt.L.can t, dInt.L.can v] (.tup []) (sMo 125 (recS s (voteW t v))) := by
 refine FnG.of_vc (fitsT (tab_cons eRRec_ok tab_nil) fun _ => none) Tryz.func190 rfl (by decide) rfl 300 (p := fun (V : List PE → Prop) => let v0 := Node.kept (Step.n s); let v1 := (0 : Int); let v2 := recS s (voteW t v); let v3 := Step.o v2; let v4 := Step.n v2; let v5 := Node.kept v4; let v6 := Kept.snap v5; let v7 := Snap.config v6; let v8 := Record.mk (1 : Int) t v (Entry.mk v1 v1 v1 (Config.mk [] []) (ByteArray.mk #[])) v1 (Snap.mk v1 v1 (Config.mk [] []) (ByteArray.mk #[])); let v9 := recS s v8; let v10 := Step.n v9; let v11 := Step.o v9; let v12 := Node.kept v10; let v13 := Kept.snap v12; let v14 := Snap.config v13; (List.length (Out.records (Step.o s)) ≤ (1000000 : Nat) ∧ SmallK v0 ∧ SmallR v8 ∧ foldOk v0 v8 ∧ True) ∧ Node.id v10 = Node.id v4 ∧ Node.role v10 = Node.role v4 ∧ Kept.term v12 = Kept.term v5 ∧ Kept.vote v12 = Kept.vote v5 ∧ Snap.index v13 = Snap.index v6 ∧ Snap.term v13 = Snap.term v6 ∧ Config.voters v14 = Config.voters v7 ∧ Config.learners v14 = Config.learners v7 ∧ Snap.data v13 = Snap.data v6 ∧ Kept.entries v12 = Kept.entries v5 ∧ Node.commit v10 = Node.commit v4 ∧ Node.lead v10 = Node.lead v4 ∧ Node.elapsed v10 = Node.elapsed v4 ∧ Node.round v10 = Node.round v4 ∧ Node.yes v10 = Node.yes v4 ∧ Node.peers v10 = Node.peers v4 ∧ Node.reads v10 = Node.reads v4 ∧ Out.records v11 = Out.records v3 ∧ Out.messages v11 = Out.messages v3 ∧ Out.ready v11 = Out.ready v3 ∧ Out.lost v11 = Out.lost v3 ∧ True) (by kernel_rfl) ?_
 simp only [imp_self, implies_true, true_and, and_true, pickB_f, pickB_t]
 refine ⟨⟨hl, hk, smallR_vote t v, hf⟩, ?_⟩
 repeat' apply And.intro
 all_goals rfl
def eRVoteW : Ent := entL2 190 3 mSt dInt.L dInt.L vrS [1, 0, 0] glS fun s t v => ([s.o.records.length ≤ 1000000, SmallK s.n.kept, foldOk s.n.kept (voteW t v)], .tup [], sMo 125 (recS s (voteW t v)))
theorem eRVoteW_ok : EntOk Tryz.prog eRVoteW := entL2_ok (fnB Tryz.func190 (by decide) rfl) fun s t v h => rvoteW_fn s t v (h _ (by simp)) (h _ (by simp)) (h _ (by simp))
theorem renough_fn (s : Step) (hn : SmallN s.n) : FnC Tryz.prog 144 [(dRpS 125).can s] (.bool (enoughB s.n)) D2 := by
 refine FnG.of_vc (fitsT (tab_cons eRConfN_ok (tab_cons eRReached_ok tab_nil)) fun _ => none) Tryz.func144 rfl (by decide) rfl 300 (p := fun (V : List PE → Prop) => let v0 := Step.n s; True ∧ (SmallN v0 ∧ True) ∧ (mayC (confC v0) && reachC (Config.voters (confC v0)) (Node.yes v0)) = enoughB v0 ∧ True) (by kernel_rfl) ?_
 simp only [imp_self, implies_true, true_and, and_true, pickB_f, pickB_t]
 exact ⟨hn, rfl⟩
def eREnough : Ent := ent1 144 (dRpS 125) fun s => ([SmallN s.n], .bool (enoughB s.n), D2)
theorem eREnough_ok : EntOk Tryz.prog eREnough := ent1_ok (fnB Tryz.func144 (by decide) rfl) fun s h => renough_fn s (h _ (by simp))
theorem foldOk_lay {n : Node} {e : Entry} (ho : onC n.kept = true) (hb : n.kept.snap.index + n.kept.entries.length ≤ 900001000) (hc : n.kept.entries.length < 10000) (s : Step) (hs : s.n = n) : foldOk s.n.kept (entR (layE s e)) := by
 subst hs
 refine ⟨ho, by omega, .inr (.inl ⟨rfl, ?_, hc⟩)⟩
 have h1 := (on_bd ho).1
 show IntKind.i64.wrap ((lastC s.n.kept).1 + 1) = _
 rw [lastC_index ho, IntKind.wrap_i64]
 omega
theorem rlay_fn (s : Step) (e : Entry) (hn : SmallN s.n) (ho : SmallO s.o) (he : SmallE e) (hg : onC s.n.kept = true ∧ s.n.kept.snap.index + s.n.kept.entries.length ≤ 900001000 ∧ s.n.kept.entries.length < 10000) : FnG Tryz.prog 118 3 (sMi 125 s) [.ptr 2 0, dEnt2.can e] (.tup []) (sMo 125 (layS s e)) := by
 refine FnG.of_vc (fitsT (tab_cons eRRec_ok (tab_cons eRLastC_ok tab_nil)) fun _ => none) Tryz.func118 rfl (by decide) rfl 300 (p := fun (V : List PE → Prop) => let v0 := Node.kept (Step.n s); let v1 := Step.n (layS s e); let v2 := Step.o (layS s e); let v3 := (0 : Int); let v4 := Node.kept v1; let v5 := Kept.snap v4; let v6 := Snap.config v5; let v7 := Record.mk (2 : Int) v3 v3 (Entry.mk (IntKind.wrap IntKind.i64 (Prod.fst (lastC v0) + (1 : Int))) (Kept.term v0) (Entry.kind e) (Entry.config e) (Entry.data e)) v3 (Snap.mk v3 v3 (Config.mk [] []) (ByteArray.mk #[])); let v8 := recS s v7; let v9 := Step.o v8; let v10 := Step.n v8; let v11 := Node.kept v10; let v12 := Kept.snap v11; let v13 := Snap.config v12; True ∧ True ∧ True ∧ True ∧ (List.length (Out.records (Step.o s)) ≤ (1000000 : Nat) ∧ SmallK v0 ∧ SmallR v7 ∧ foldOk v0 v7 ∧ True) ∧ Node.id v10 = Node.id v1 ∧ Node.role v10 = Node.role v1 ∧ Kept.term v11 = Kept.term v4 ∧ Kept.vote v11 = Kept.vote v4 ∧ Snap.index v12 = Snap.index v5 ∧ Snap.term v12 = Snap.term v5 ∧ Config.voters v13 = Config.voters v6 ∧ Config.learners v13 = Config.learners v6 ∧ Snap.data v12 = Snap.data v5 ∧ Kept.entries v11 = Kept.entries v4 ∧ Node.commit v10 = Node.commit v1 ∧ Node.lead v10 = Node.lead v1 ∧ Node.elapsed v10 = Node.elapsed v1 ∧ Node.round v10 = Node.round v1 ∧ Node.yes v10 = Node.yes v1 ∧ Node.peers v10 = Node.peers v1 ∧ Node.reads v10 = Node.reads v1 ∧ Out.records v9 = Out.records v2 ∧ Out.messages v9 = Out.messages v2 ∧ Out.ready v9 = Out.ready v2 ∧ Out.lost v9 = Out.lost v2 ∧ True) (by kernel_rfl) ?_
 simp only [imp_self, implies_true, true_and, and_true, pickB_f, pickB_t]
 refine ⟨⟨ho.records, hn.k, ⟨he, ⟨Nat.zero_le _, Nat.zero_le _⟩⟩, foldOk_lay hg.1 hg.2.1 hg.2.2 s rfl⟩, ?_⟩
 repeat' apply And.intro
 all_goals rfl
def eRLay : Ent := entL1 118 3 mSt dEnt2 vrS [1, 2] glS fun s e => ([SmallN s.n, SmallO s.o, SmallE e, onC s.n.kept = true ∧ s.n.kept.snap.index + s.n.kept.entries.length ≤ 900001000 ∧ s.n.kept.entries.length < 10000], .tup [], sMo 125 (layS s e))
theorem eRLay_ok : EntOk Tryz.prog eRLay := entL1_ok (fnB Tryz.func118 (by decide) rfl) fun s r h => rlay_fn s r (h _ (by simp)) (h _ (by simp)) (h _ (by simp)) (h _ (by simp))
def tabRY : List Ent := [eRTermC, eRSlice, eRSnap, eRSend]
theorem tabRY_ok : ∀ e ∈ tabRY, EntOk Tryz.prog e := tab_cons eRTermC_ok (tab_cons eRSlice_ok (tab_cons eRSnap_ok (tab_cons eRSend_ok tab_nil)))
theorem rto_fn (s : Step) (p : Peer) (hn : SmallN s.n) (ho : s.o.messages.length ≤ 1000000) : FnG Tryz.prog 166 3 (sMi 125 s) [.ptr 2 0, dPeer.L.can p] (.tup []) (sMoM 125 (toS s p)) := by
 refine FnG.of_vc (fitsT tabRY_ok fun _ => none) Tryz.func166 rfl (by decide) rfl 300 (p := fun (V : List PE → Prop) => let v0 := Peer.next p; let v1 := Node.kept (Step.n s); let v2 := Node.round (Step.n s); let v3 := Step.o (toS s p); let v4 := Step.n (toS s p); let v5 := Kept.snap v1; let v6 := Out.lost v3; let v7 := Out.records v3; let v8 := Node.kept v4; let v9 := Node.round v4; let v10 := Out.messages v3; let v11 := Out.ready v3; let v12 := Node.yes v4; let v13 := Node.peers v4; let v14 := Node.reads v4; let v15 := Snap.index v5; let v16 := Node.elapsed v4; let v17 := ByteArray.mk #[]; let v18 := Snap.config v5; let v19 := Node.role v4; let v20 := Node.lead v4; let v21 := Node.commit v4; let v22 := Node.id v4; let v23 := (0 : Int); let v24 := Kept.snap v8; let v25 := Kept.term v8; let v26 := Kept.entries v8; let v27 := Kept.vote v8; let v28 := Snap.term v24; let v29 := Snap.data v24; let v30 := Snap.config v24; let v31 := Snap.index v24; let v32 := Config.voters v30; let v33 := Config.learners v30; let v34 := IntKind.wrap IntKind.i64 (v0 - (1 : Int)); let v35 := decide (v0 ≤ v15); let v36 := sendS s (Message.mk (7 : Int) v23 (Peer.node p) v23 v23 v23 [] v23 v2 false v5 v23 v23 v17); let v37 := Step.o v36; let v38 := Step.n v36; let v39 := Node.kept v38; let v40 := Kept.snap v39; let v41 := Snap.config v40; let v42 := sendS s (Message.mk (5 : Int) v23 (Peer.node p) v23 v34 (Prod.fst (termC v1 v34)) (Prod.fst (sliceC v1 v0 (8 : Int))) (Node.commit (Step.n s)) v2 false (Snap.mk v23 v23 (Config.mk [] []) v17) v23 v23 v17); let v43 := Step.n v42; let v44 := Step.o v42; let v45 := Node.kept v43; let v46 := Kept.snap v45; let v47 := Snap.config v46; True ∧ True ∧ True ∧ (v35 = true → (List.length (Config.voters v18) ≤ (1000000 : Nat) ∧ List.length (Config.learners v18) ≤ (1000000 : Nat) ∧ List.length (Out.messages (Step.o s)) ≤ (1000000 : Nat) ∧ True) ∧ Node.id v38 = v22 ∧ Node.role v38 = v19 ∧ Kept.term v39 = v25 ∧ Kept.vote v39 = v27 ∧ Snap.index v40 = v31 ∧ Snap.term v40 = v28 ∧ Config.voters v41 = v32 ∧ Config.learners v41 = v33 ∧ Snap.data v40 = v29 ∧ Kept.entries v39 = v26 ∧ Node.commit v38 = v21 ∧ Node.lead v38 = v20 ∧ Node.elapsed v38 = v16 ∧ Node.round v38 = v9 ∧ Node.yes v38 = v12 ∧ Node.peers v38 = v13 ∧ Node.reads v38 = v14 ∧ Out.records v37 = v7 ∧ Out.ready v37 = v11 ∧ Out.lost v37 = v6 ∧ Out.messages v37 = v10 ∧ True) ∧ (v35 = false → True ∧ (SmallK v1 ∧ v23 ≤ (8 : Int) ∧ True) ∧ (List.length (Out.messages (Step.o s)) ≤ (1000000 : Nat) ∧ True) ∧ Node.id v43 = v22 ∧ Node.role v43 = v19 ∧ Kept.term v45 = v25 ∧ Kept.vote v45 = v27 ∧ Snap.index v46 = v31 ∧ Snap.term v46 = v28 ∧ Config.voters v47 = v32 ∧ Config.learners v47 = v33 ∧ Snap.data v46 = v29 ∧ Kept.entries v45 = v26 ∧ Node.commit v43 = v21 ∧ Node.lead v43 = v20 ∧ Node.elapsed v43 = v16 ∧ Node.round v43 = v9 ∧ Node.yes v43 = v12 ∧ Node.peers v43 = v13 ∧ Node.reads v43 = v14 ∧ Out.records v44 = v7 ∧ Out.ready v44 = v11 ∧ Out.lost v44 = v6 ∧ Out.messages v44 = v10 ∧ True)) (by kernel_rfl) ?_
 simp only [imp_self, implies_true, true_and, and_true, pickB_f, pickB_t]
 refine ⟨fun h => ?_, fun h => ?_⟩
 ·have h : p.next ≤ s.n.kept.snap.index := by simpa using h
  have e : toS s p = sendS s ⟨7, 0, p.node, 0, 0, 0, [], 0, s.n.round, false, s.n.kept.snap, 0, 0, ⟨#[]⟩⟩ := by rw [toS, toM, if_pos h]; rfl
  rw [e]
  refine ⟨⟨hn.k.2.1, hn.k.2.2, ho⟩, ?_⟩
  simp only [and_self]
 ·have h : ¬ p.next ≤ s.n.kept.snap.index := by simpa using h
  have e : toS s p = sendS s ⟨5, 0, p.node, 0, IntKind.i64.wrap (p.next - 1), (termC s.n.kept (IntKind.i64.wrap (p.next - 1))).1, (sliceC s.n.kept p.next 8).1, s.n.commit, s.n.round, false, ⟨0, 0, ⟨[], []⟩, ⟨#[]⟩⟩, 0, 0, ⟨#[]⟩⟩ := by rw [toS, toM, if_neg h]; rfl
  rw [e]
  refine ⟨⟨hn.k, by decide⟩, ho, ?_⟩
  simp only [and_self]
def eRTo : Ent := entL1 166 3 mSt dPeer.L vrS [1, 0] glS fun s p => ([SmallN s.n, s.o.messages.length ≤ 1000000], .tup [], sMoM 125 (toS s p))
theorem eRTo_ok : EntOk Tryz.prog eRTo := entL1_ok (fnB Tryz.func166 (by decide) rfl) fun s p h => rto_fn s p (h _ (by simp)) (h _ (by simp))
theorem rall18_fn (s : Step) (hn : SmallN s.n) (ho : s.o.messages.length + s.n.peers.length ≤ 1000000) : FnG Tryz.prog 108 3 (sMi 125 s) [.ptr 2 0] (.tup []) (sMoM 125 (allS s)) := by
 refine FnG.of_vc (fitsT (tab_cons eRTo_ok tab_nil) fun _ => none) Tryz.func108 rfl (by decide) rfl 300 (p := fun (V : List PE → Prop) => True ∧ V []) (by kernel_rfl) ?_
 simp only [imp_self, implies_true, true_and, and_true, pickB_f, pickB_t]
 have hpl := hn.peers
 refine LoopG.head (fitsT (tab_cons eRTo_ok tab_nil) fun _ => none) 0 (A := Nat) (fun j => j ≤ s.n.peers.length) (fun j => [(2, .int .i64 j)]) (fun j => [(2, .cells 125 (sCs [1] s 3 4 5 6 12 8 9)), (6, .row 139 [2, 61] (.rRecord s.o.records)), (8, .row 96 [2, 61] (.rRead s.o.ready)), (9, .row 3 [2, 61] (.rInts s.o.lost)), (7, .dead), (12, .row 39 [2, 61] (.rMessage (s.o.messages ++ (s.n.peers.take j).map fun p => msgS s (toM s p)))), (61, .dead)]) (fun j => s.n.peers.length - j) 0 (Nat.zero_le _) /-0-/ (p0 := let v0 := Step.n s; let v1 := Step.o s; let v2 := Node.id v0; let v3 := Node.role v0; let v4 := Out.ready v1; let v5 := Node.commit v0; let v6 := Node.round v0; let v7 := Node.reads v0; let v8 := Node.yes v0; let v9 := Node.kept v0; let v10 := Node.lead v0; let v11 := Node.peers v0; let v12 := Node.elapsed v0; let v13 := Out.records v1; let v14 := Out.lost v1; let v15 := Out.messages v1; let v16 := Kept.entries v9; let v17 := Kept.snap v9; let v18 := Kept.term v9; let v19 := Kept.vote v9; let v20 := Snap.term v17; let v21 := Snap.index v17; let v22 := Snap.data v17; let v23 := Snap.config v17; let v24 := Config.voters v23; let v25 := Config.learners v23; (0 : Int) = (↑(0 : Nat) : Int) ∧ v2 = v2 ∧ v3 = v3 ∧ v18 = v18 ∧ v19 = v19 ∧ v21 = v21 ∧ v20 = v20 ∧ v24 = v24 ∧ v25 = v25 ∧ v22 = v22 ∧ v16 = v16 ∧ v5 = v5 ∧ v10 = v10 ∧ v12 = v12 ∧ v6 = v6 ∧ v13 = v13 ∧ v4 = v4 ∧ v14 = v14 ∧ v15 = v15 ++ List.map (fun (p : Peer) => msgS s (toM s p)) (List.take (0 : Nat) v11) ∧ v8 = v8 ∧ v11 = v11 ∧ v7 = v7 ∧ True) (by kernel_rfl) ?_ 300 (p := fun (x : Nat) (V : List PE → Prop) => let v0 := Step.n s; let v1 := Step.o s; let v2 := Step.o (allS s); let v3 := Node.peers v0; let v4 := Node.kept v0; let v5 := Step.n (allS s); let v6 := (↑x : Int); let v7 := Node.kept v5; let v8 := Kept.snap v4; let v9 := Kept.snap v7; let v10 := List.length v3; let v11 := Snap.config v8; let v12 := Snap.config v9; let v13 := (↑v10 : Int); let v14 := decide (v6 < v13); let v15 := Out.messages v1 ++ List.map (fun (p : Peer) => msgS s (toM s p)) (List.take x v3); True ∧ True ∧ (v14 = true → ((0 : Int) ≤ v6 ∧ v6 < v13 ∧ x < v10 ∧ SmallN v0 ∧ List.length v15 ≤ (1000000 : Nat) ∧ True) ∧ True ∧ V [PE.a]) ∧ (v14 = false → Node.id v0 = Node.id v5 ∧ Node.role v0 = Node.role v5 ∧ Kept.term v4 = Kept.term v7 ∧ Kept.vote v4 = Kept.vote v7 ∧ Snap.index v8 = Snap.index v9 ∧ Snap.term v8 = Snap.term v9 ∧ Config.voters v11 = Config.voters v12 ∧ Config.learners v11 = Config.learners v12 ∧ Snap.data v8 = Snap.data v9 ∧ Kept.entries v4 = Kept.entries v7 ∧ Node.commit v0 = Node.commit v5 ∧ Node.lead v0 = Node.lead v5 ∧ Node.elapsed v0 = Node.elapsed v5 ∧ Node.round v0 = Node.round v5 ∧ Node.yes v0 = Node.yes v5 ∧ v3 = Node.peers v5 ∧ Node.reads v0 = Node.reads v5 ∧ Out.records v1 = Out.records v2 ∧ Out.ready v1 = Out.ready v2 ∧ Out.lost v1 = Out.lost v2 ∧ v15 = Out.messages v2 ∧ True)) (by intro x; kernel_rfl) ?_
 ·simp
 rintro j hj
 simp only [imp_self, implies_true, true_and, and_true, decide_eq_true_eq, decide_eq_false_iff_not]
 refine ⟨fun h6 => ?_, fun h6 => ?_⟩
 ·refine ⟨⟨by omega, by omega, by omega, hn, by simp only [List.length_append, List.length_map, List.length_take]; omega⟩, ?_⟩
  refine Back.mk (j + 1) (by omega) (by omega) /-0-/ (p0 := let v0 := Step.n s; let v1 := Step.o s; let v2 := Out.messages v1; let v3 := Node.peers v0; let v4 := Out.ready v1; let v5 := Out.records v1; let v6 := Out.lost v1; let v7 := Node.kept v0; let v8 := Kept.snap v7; let v9 := Snap.config v8; let v10 := toS (Step.mk v0 (Out.mk v5 (v2 ++ List.map (fun (p : Peer) => msgS s (toM s p)) (List.take j v3)) v4 v6)) (List.getD v3 j default); let v11 := Step.n v10; let v12 := Step.o v10; let v13 := Node.kept v11; let v14 := Kept.snap v13; let v15 := Snap.config v14; IntKind.wrap IntKind.i64 ((↑j : Int) + (1 : Int)) = (↑(j + (1 : Nat)) : Int) ∧ Node.id v11 = Node.id v0 ∧ Node.role v11 = Node.role v0 ∧ Kept.term v13 = Kept.term v7 ∧ Kept.vote v13 = Kept.vote v7 ∧ Snap.index v14 = Snap.index v8 ∧ Snap.term v14 = Snap.term v8 ∧ Config.voters v15 = Config.voters v9 ∧ Config.learners v15 = Config.learners v9 ∧ Snap.data v14 = Snap.data v8 ∧ Kept.entries v13 = Kept.entries v7 ∧ Node.commit v11 = Node.commit v0 ∧ Node.lead v11 = Node.lead v0 ∧ Node.elapsed v11 = Node.elapsed v0 ∧ Node.round v11 = Node.round v0 ∧ Out.records v12 = v5 ∧ Out.ready v12 = v4 ∧ Out.lost v12 = v6 ∧ Out.messages v12 = v2 ++ List.map (fun (p : Peer) => msgS s (toM s p)) (List.take (j + (1 : Nat)) v3) ∧ Node.yes v11 = Node.yes v0 ∧ Node.peers v11 = v3 ∧ Node.reads v11 = Node.reads v0 ∧ True) (by kernel_rfl) ?_
  have e1 := take_snoc (l := s.n.peers) (d := (default : Peer)) (i := j) (by omega)
  simp only [wrapN (i := j) (by omega), e1, toS, sendS, toM_o, msgS_o, fun p => toM_s s p, fun m => msgS_s s m, List.map_append, List.map_cons, List.map_nil, List.append_assoc, true_and, and_true]
  omega
 ·obtain rfl : j = s.n.peers.length := by omega
  simp only [List.take_length, allS, and_self]
def eRAll18 : Ent := entN0 108 3 mSt vrS [1] glS fun s => ([SmallN s.n, s.o.messages.length + s.n.peers.length ≤ 1000000], .tup [], sMoM 125 (allS s))
theorem eRAll18_ok : EntOk Tryz.prog eRAll18 := entN0_ok (fnB Tryz.func108 (by decide) rfl) fun s h => rall18_fn s (h _ (by simp)) (h _ (by simp))
theorem rvoters_fn (s : Step) (m : Message) (hn : SmallN s.n) (ho : SmallO s.o) (hm : s.o.messages.length ≤ 900000) (hv : (confC s.n).voters.length ≤ 4000) : FnG Tryz.prog 146 3 (sMi 125 s) [.ptr 2 0, dMsg2.can m] (.tup []) (sMoM 125 (askS s m)) := by
 refine FnG.of_vc (fitsT (tab_cons eRLastC_ok (tab_cons eRConfN_ok (tab_cons eDrop_ok (tab_cons eRSend_ok tab_nil)))) fun _ => none) Tryz.func146 rfl (by decide) rfl 300 (p := fun (V : List PE → Prop) => let v0 := Step.n s; True ∧ True ∧ True ∧ True ∧ (List.length (Node.yes v0) ≤ (17592186044416 : Nat) ∧ List.length (Node.peers v0) ≤ (17592186044416 : Nat) ∧ List.length (Node.reads v0) ≤ (17592186044416 : Nat) ∧ SmallN v0 ∧ List.length (Config.voters (confC v0)) ≤ (1000000 : Nat) ∧ True) ∧ True ∧ V []) (by kernel_rfl) ?_
 simp only [imp_self, implies_true, true_and, and_true, pickB_f, pickB_t]
 obtain ⟨b1, b2, b3, b4, b5⟩ := hn.ls
 obtain ⟨L, hL⟩ : ∃ L, dropL (confC s.n).voters s.n.id = L := ⟨_, rfl⟩
 have hll : L.length ≤ 4000 := by rw [← hL]; exact Nat.le_trans (List.length_filter_le _ _) hv
 refine ⟨⟨b2, b3, b4, hn, Nat.le_trans hv (by decide)⟩, ?_⟩
 refine LoopG.head (fitsT (tab_cons eRLastC_ok (tab_cons eRConfN_ok (tab_cons eDrop_ok (tab_cons eRSend_ok tab_nil)))) fun _ => none) 0 (A := Nat × Int) (fun j => j.1 ≤ L.length) (fun j => [(7, .int .i64 j.1), (6, .sl [900] (.rInts L))]) (fun j => [(2, .cells 125 (sCs [1] s 3 4 5 6 12 8 9)), (6, .row 139 [2, 901] (.rRecord s.o.records)), (8, .row 96 [2, 901] (.rRead s.o.ready)), (9, .row 3 [2, 901] (.rInts s.o.lost)), (7, .dead), (12, .row 39 [2, 901] (.rMessage (s.o.messages ++ (L.take j.1).map fun v => msgS s (askM s m v)))), (10, .cells 39 ((askM s m j.2).svs [2])), (900, .dead), (901, .dead)]) (fun j => L.length - j.1) (0, m.to_) (Nat.zero_le _) /-0-/ (p0 := let v0 := Step.o s; let v1 := Message.snap m; let v2 := Step.n s; let v3 := Node.elapsed v2; let v4 := Node.id v2; let v5 := Out.records v0; let v6 := Node.lead v2; let v7 := Node.kept v2; let v8 := Out.lost v0; let v9 := Node.reads v2; let v10 := Out.ready v0; let v11 := Snap.config v1; let v12 := Node.commit v2; let v13 := Node.round v2; let v14 := Node.peers v2; let v15 := Node.yes v2; let v16 := Out.messages v0; let v17 := Node.role v2; let v18 := lastC v7; let v19 := Kept.snap v7; let v20 := Kept.entries v7; let v21 := Kept.vote v7; let v22 := Kept.term v7; let v23 := Snap.config v19; let v24 := askM s m (Message.to_ m); let v25 := Snap.data v19; let v26 := Snap.term v19; let v27 := Snap.index v19; let v28 := Message.snap v24; let v29 := Config.voters v23; let v30 := Config.learners v23; let v31 := Snap.config v28; (0 : Int) = (↑(0 : Nat) : Int) ∧ dropL (Config.voters (confC v2)) v4 = L ∧ v4 = v4 ∧ v17 = v17 ∧ v22 = v22 ∧ v21 = v21 ∧ v27 = v27 ∧ v26 = v26 ∧ v29 = v29 ∧ v30 = v30 ∧ v25 = v25 ∧ v20 = v20 ∧ v12 = v12 ∧ v6 = v6 ∧ v3 = v3 ∧ v13 = v13 ∧ v5 = v5 ∧ v10 = v10 ∧ v8 = v8 ∧ v16 = v16 ++ List.map (fun (v : Int) => msgS s (askM s m v)) (List.take (0 : Nat) L) ∧ Message.kind m = Message.kind v24 ∧ Message.from_ m = Message.from_ v24 ∧ Message.to_ m = Message.to_ v24 ∧ Message.term m = Message.term v24 ∧ Prod.fst v18 = Message.index v24 ∧ Prod.snd v18 = Message.logTerm v24 ∧ Message.entries m = Message.entries v24 ∧ Message.commit m = Message.commit v24 ∧ Message.round m = Message.round v24 ∧ Message.ok m = Message.ok v24 ∧ Snap.index v1 = Snap.index v28 ∧ Snap.term v1 = Snap.term v28 ∧ Config.voters v11 = Config.voters v31 ∧ Config.learners v11 = Config.learners v31 ∧ Snap.data v1 = Snap.data v28 ∧ Message.ask m = Message.ask v24 ∧ Message.seq m = Message.seq v24 ∧ Message.data m = Message.data v24 ∧ v15 = v15 ∧ v14 = v14 ∧ v9 = v9 ∧ True) (by kernel_rfl) ?_ 300 (p := fun (x : Nat × Int) (V : List PE → Prop) => let v0 := Step.n s; let v1 := Step.o s; let v2 := Node.kept v0; let v3 := Kept.snap v2; let v4 := Step.n (askS s m); let v5 := Step.o (askS s m); let v6 := Snap.config v3; let v7 := Node.kept v4; let v8 := (↑(List.length L) : Int); let v9 := Kept.snap v7; let v10 := (↑(Prod.fst x) : Int); let v11 := Snap.config v9; let v12 := decide (v10 < v8); let v13 := Out.messages v1 ++ List.map (fun (v : Int) => msgS s (askM s m v)) (List.take (Prod.fst x) L); True ∧ True ∧ (v12 = true → ((0 : Int) ≤ v10 ∧ v10 < v8 ∧ True) ∧ (List.length v13 ≤ (1000000 : Nat) ∧ True) ∧ True ∧ V [PE.a]) ∧ (v12 = false → Node.id v0 = Node.id v4 ∧ Node.role v0 = Node.role v4 ∧ Kept.term v2 = Kept.term v7 ∧ Kept.vote v2 = Kept.vote v7 ∧ Snap.index v3 = Snap.index v9 ∧ Snap.term v3 = Snap.term v9 ∧ Config.voters v6 = Config.voters v11 ∧ Config.learners v6 = Config.learners v11 ∧ Snap.data v3 = Snap.data v9 ∧ Kept.entries v2 = Kept.entries v7 ∧ Node.commit v0 = Node.commit v4 ∧ Node.lead v0 = Node.lead v4 ∧ Node.elapsed v0 = Node.elapsed v4 ∧ Node.round v0 = Node.round v4 ∧ Node.yes v0 = Node.yes v4 ∧ Node.peers v0 = Node.peers v4 ∧ Node.reads v0 = Node.reads v4 ∧ Out.records v1 = Out.records v5 ∧ Out.ready v1 = Out.ready v5 ∧ Out.lost v1 = Out.lost v5 ∧ v13 = Out.messages v5 ∧ True)) (by intro x; kernel_rfl) ?_
 ·simp [askM, hL]
 rintro ⟨j, t⟩ hj
 dsimp only at hj
 simp only [imp_self, implies_true, true_and, and_true, decide_eq_true_eq, decide_eq_false_iff_not]
 have htl : (L.take j).length ≤ 4000 := by simp only [List.length_take]; omega
 refine ⟨fun h6 => ⟨⟨by omega, h6⟩, by simp only [List.length_append, List.length_map]; omega, ?_⟩, fun h6 => ?_⟩
 ·refine Back.mk (j + 1, L.getD j 0) (by show j + 1 ≤ _; omega) (by show _ - (j + 1) < _ - j; omega) /-0-/ (p0 := let v0 := Step.o s; let v1 := Step.n s; let v2 := Out.records v0; let v3 := Out.messages v0; let v4 := Node.kept v1; let v5 := Out.ready v0; let v6 := Out.lost v0; let v7 := Kept.snap v4; let v8 := askM s m t; let v9 := Message.entries v8; let v10 := Message.ask v8; let v11 := Message.data v8; let v12 := Message.term v8; let v13 := Message.snap v8; let v14 := Message.commit v8; let v15 := Message.seq v8; let v16 := Message.from_ v8; let v17 := Message.kind v8; let v18 := Message.ok v8; let v19 := Message.logTerm v8; let v20 := Message.round v8; let v21 := Snap.config v7; let v22 := Message.index v8; let v23 := Snap.config v13; let v24 := List.getD L j (0 : Int); let v25 := askM s m v24; let v26 := Message.snap v25; let v27 := Snap.config v26; let v28 := sendS (Step.mk v1 (Out.mk v2 (v3 ++ List.map (fun (v : Int) => msgS s (askM s m v)) (List.take j L)) v5 v6)) (Message.mk v17 v16 v24 v12 v22 v19 v9 v14 v20 v18 v13 v10 v15 v11); let v29 := Step.n v28; let v30 := Step.o v28; let v31 := Node.kept v29; let v32 := Kept.snap v31; let v33 := Snap.config v32; IntKind.wrap IntKind.i64 ((↑j : Int) + (1 : Int)) = (↑(j + (1 : Nat)) : Int) ∧ L = L ∧ Node.id v29 = Node.id v1 ∧ Node.role v29 = Node.role v1 ∧ Kept.term v31 = Kept.term v4 ∧ Kept.vote v31 = Kept.vote v4 ∧ Snap.index v32 = Snap.index v7 ∧ Snap.term v32 = Snap.term v7 ∧ Config.voters v33 = Config.voters v21 ∧ Config.learners v33 = Config.learners v21 ∧ Snap.data v32 = Snap.data v7 ∧ Kept.entries v31 = Kept.entries v4 ∧ Node.commit v29 = Node.commit v1 ∧ Node.lead v29 = Node.lead v1 ∧ Node.elapsed v29 = Node.elapsed v1 ∧ Node.round v29 = Node.round v1 ∧ Out.records v30 = v2 ∧ Out.ready v30 = v5 ∧ Out.lost v30 = v6 ∧ Out.messages v30 = v3 ++ List.map (fun (v : Int) => msgS s (askM s m v)) (List.take (j + (1 : Nat)) L) ∧ v17 = Message.kind v25 ∧ v16 = Message.from_ v25 ∧ v24 = Message.to_ v25 ∧ v12 = Message.term v25 ∧ v22 = Message.index v25 ∧ v19 = Message.logTerm v25 ∧ v9 = Message.entries v25 ∧ v14 = Message.commit v25 ∧ v20 = Message.round v25 ∧ v18 = Message.ok v25 ∧ Snap.index v13 = Snap.index v26 ∧ Snap.term v13 = Snap.term v26 ∧ Config.voters v23 = Config.voters v27 ∧ Config.learners v23 = Config.learners v27 ∧ Snap.data v13 = Snap.data v26 ∧ v10 = Message.ask v25 ∧ v15 = Message.seq v25 ∧ v11 = Message.data v25 ∧ Node.yes v29 = Node.yes v1 ∧ Node.peers v29 = Node.peers v1 ∧ Node.reads v29 = Node.reads v1 ∧ True) (by kernel_rfl) ?_
  simp only [true_and, and_true, wrapN (i := j) (by omega)]
  rw [take_snoc (d := (0 : Int)) (by omega), List.map_append]
  refine ⟨by omega, ?_⟩
  simp [sendS, msgS, askM]
  by_cases g : m.term = 0 <;> simp [g]
 ·obtain rfl : j = L.length := by omega
  rw [List.take_length]
  simp only [askS, hL, and_self]
def eRVoters : Ent := entL1 146 3 mSt dMsg2 vrS [1, 2] glS fun s m => ([SmallN s.n, SmallO s.o, s.o.messages.length ≤ 900000, (confC s.n).voters.length ≤ 4000], .tup [], sMoM 125 (askS s m))
theorem eRVoters_ok : EntOk Tryz.prog eRVoters := entL1_ok (fnB Tryz.func146 (by decide) rfl) fun s m h => rvoters_fn s m (h _ (by simp)) (h _ (by simp)) (h _ (by simp)) (h _ (by simp))
def refM (v : Int) : List Peer → Int → Int
 | [], n => n
 | p :: l, n => refM v l (if p.node = v then p.match_ else n)
theorem refM_app (v : Int) : ∀ (a b : List Peer) (n : Int), refM v (a ++ b) n = refM v b (refM v a n)
 | [], b, n => rfl
 | p :: a, b, n => refM_app v a b _
theorem refM_none {v : Int} : ∀ {l : List Peer} {n : Int}, v ∉ l.map (·.node) → refM v l n = n ∧ peerI l v = -1
  | [], n, _ => ⟨rfl, rfl⟩
  | p :: l, n, h => by
    simp only [List.map_cons, List.mem_cons, not_or] at h
    obtain ⟨h1, h2⟩ := refM_none (l := l) (n := n) h.2
    have hne : ¬ p.node = v := fun e => h.1 e.symm
    refine ⟨by rw [refM, if_neg hne]; exact h1, ?_⟩
    have h2' : firstI (isV v) (l.map (·.node)) = -1 := h2
    show firstI (isV v) (p.node :: l.map (·.node)) = -1
    rw [firstI, if_neg (by simp [isV, hne]), if_pos h2']
theorem refM_eq {v : Int} : ∀ {l : List Peer} {n : Int}, (l.map (·.node)).Nodup → refM v l n = if 0 ≤ peerI l v then (l.getD (peerI l v).toNat default).match_ else n
  | [], n, _ => rfl
  | p :: l, n, h => by
    simp only [List.map_cons, List.nodup_cons] at h
    by_cases e : p.node = v
    · have hv : v ∉ l.map (·.node) := by rw [← e]; exact h.1
      have hi : peerI (p :: l) v = 0 := by
        show firstI (isV v) (p.node :: l.map (·.node)) = 0
        rw [firstI, if_pos (by simp [isV, e])]
      rw [refM, if_pos e, (refM_none hv).1, hi, if_pos (Int.le_refl 0)]
      rfl
    · have ih := refM_eq (v := v) (l := l) (n := n) h.2
      have h2 : peerI (p :: l) v = if peerI l v = -1 then -1 else peerI l v + 1 := by
        show firstI (isV v) (p.node :: l.map (·.node)) = _
        rw [firstI, if_neg (by simp [isV, e])]
        rfl
      rw [refM, if_neg e, ih, h2]
      have hge := (firstI_lt (p := isV v) (l.map (·.node))).1
      have hge : -1 ≤ peerI l v := hge
      by_cases g : peerI l v = -1
      · rw [if_neg (by omega), if_pos g, if_neg (by omega)]
      · rw [if_pos (by omega), if_neg g, if_pos (by omega)]
        rw [show (peerI l v + 1).toNat = (peerI l v).toNat + 1 by omega, List.getD_cons_succ]
noncomputable def tabRc1 : List Ent := [eRConfN, eRLastC, eRSure, eRTermC]
theorem tabRc1_ok : ∀ e ∈ tabRc1, EntOk Tryz.prog e := tab_cons eRConfN_ok (tab_cons eRLastC_ok (tab_cons eRSure_ok (tab_cons eRTermC_ok tab_nil)))
theorem rcount_fn (s : Step) (hn : SmallN s.n) (ho : SmallO s.o) (hv : (confC s.n).voters.length ≤ 4000) (hg : (s.n.peers.map (·.node)).Nodup) : FnG Tryz.prog 120 3 (sMi 125 s) [.ptr 2 0] (.tup []) (sMi 125 (countS s)) := by
  refine FnG.of_vc (fitsT tabRc1_ok fun _ => none) Tryz.func120 rfl (by decide) rfl 300 (p := fun (V : List PE → Prop) => let v0 := Step.n s; (List.length (Node.yes v0) ≤ (17592186044416 : Nat) ∧ List.length (Node.peers v0) ≤ (17592186044416 : Nat) ∧ List.length (Node.reads v0) ≤ (17592186044416 : Nat) ∧ SmallN v0 ∧ True) ∧ True ∧ True ∧ True ∧ V []) (by kernel_rfl) ?_
  simp only [imp_self, implies_true, true_and, and_true, pickB_f, pickB_t]
  obtain ⟨b1, b2, b3, b4, b5⟩ := hn.ls
  obtain ⟨V, hV⟩ : ∃ V, (confC s.n).voters = V := ⟨_, rfl⟩
  have hVl : V.length ≤ 4000 := by rw [← hV]; exact hv
  refine ⟨⟨b2, b3, b4, hn⟩, ?_⟩
  refine LoopG.head (fitsT tabRc1_ok fun _ => none) 0 (A := Nat) (fun j => j ≤ V.length) (fun j => [(6, .int .i64 j), (5, .own 12)]) (fun j => [(38, .cells 25 [.sl [900] (.rInts V), .sl [900] (.rInts (confC s.n).learners)]), (12, .row 3 [] (.rInts ((V.take j).map (matchI s)))), (900, .dead)]) (fun j => V.length - j) 0 (Nat.zero_le _) /-0-/ (p0 := let v0 := Step.o s; let v1 := Step.n s; let v2 := Out.messages v0; let v3 := Node.peers v1; let v4 := Node.reads v1; let v5 := Node.yes v1; let v6 := Node.commit v1; let v7 := Node.lead v1; let v8 := Out.lost v0; let v9 := Node.elapsed v1; let v10 := Node.kept v1; let v11 := Node.round v1; let v12 := Node.role v1; let v13 := Out.ready v0; let v14 := Out.records v0; let v15 := Node.id v1; let v16 := Config.learners (confC v1); let v17 := Kept.entries v10; let v18 := Kept.term v10; let v19 := Kept.vote v10; let v20 := Kept.snap v10; let v21 := Snap.term v20; let v22 := Snap.index v20; let v23 := Snap.config v20; let v24 := Snap.data v20; let v25 := Config.voters v23; let v26 := Config.learners v23; let v27 := Prod.fst (lastC v10); (0 : Int) = (↑(0 : Nat) : Int) ∧ v27 = v27 ∧ Config.voters (confC v1) = V ∧ v16 = v16 ∧ List.map (matchI s) (List.take (0 : Nat) V) = [] ∧ v15 = v15 ∧ v12 = v12 ∧ v18 = v18 ∧ v19 = v19 ∧ v22 = v22 ∧ v21 = v21 ∧ v25 = v25 ∧ v26 = v26 ∧ v24 = v24 ∧ v17 = v17 ∧ v6 = v6 ∧ v7 = v7 ∧ v9 = v9 ∧ v11 = v11 ∧ v5 = v5 ∧ v3 = v3 ∧ v4 = v4 ∧ v14 = v14 ∧ v2 = v2 ∧ v13 = v13 ∧ v8 = v8 ∧ True) (by kernel_rfl) ?_ 300 (p := fun (x : Nat) (V_1 : List PE → Prop) => let v0 := Step.n s; let v1 := Step.o s; let v2 := Node.kept v0; let v3 := Node.role v0; let v4 := Step.n (countS s); let v5 := Node.commit v0; let v6 := Node.lead v0; let v7 := Node.round v0; let v8 := Step.o (countS s); let v9 := Node.elapsed v0; let v10 := Node.id v0; let v11 := Node.kept v4; let v12 := Kept.entries v2; let v13 := Kept.snap v2; let v14 := Kept.vote v2; let v15 := Kept.term v2; let v16 := (↑x : Int); let v17 := Snap.index v13; let v18 := Snap.config v13; let v19 := Snap.data v13; let v20 := Snap.term v13; let v21 := Kept.snap v11; let v22 := Snap.config v21; let v23 := Config.learners v18; let v24 := Config.voters v18; let v25 := (↑(List.length V) : Int); let v26 := List.map (matchI s) (List.take x V); let v27 := sureC v26; let v28 := List.length v26; let v29 := termC v2 v27; let v30 := decide (v16 < v25); let v31 := decide (v27 > v5); let v32 := pickB v31 (Prod.snd v29 == (0 : Int)) false; let v33 := pickB v32 (Prod.fst v29 == v15) false; True ∧ True ∧ (v30 = true → True ∧ ((0 : Int) ≤ v16 ∧ v16 < v25 ∧ True) ∧ True ∧ True ∧ V_1 [PE.a]) ∧ (v30 = false → (v28 ≤ (17592186044416 : Nat) ∧ v28 ≤ (1000000 : Nat) ∧ True) ∧ True ∧ ((v31 = true → v31 = true) ∧ (v31 = true → v31 = true) ∧ (v32 = true → v32 = true) ∧ (v32 = true → v32 = true) ∧ (v32 = true → v32 = true) ∧ (v32 = true → v32 = true) ∧ (v32 = true → v32 = true) ∧ (v32 = true → v32 = true) ∧ (v32 = true → v32 = true) ∧ (v32 = true → v32 = true) ∧ True) ∧ True ∧ pickI v33 v10 v10 = Node.id v4 ∧ pickI v33 v3 v3 = Node.role v4 ∧ pickI v33 v15 v15 = Kept.term v11 ∧ pickI v33 v14 v14 = Kept.vote v11 ∧ pickI v33 v17 v17 = Snap.index v21 ∧ pickI v33 v20 v20 = Snap.term v21 ∧ (if v33 = true then v24 else v24) = Config.voters v22 ∧ (if v33 = true then v23 else v23) = Config.learners v22 ∧ (if v33 = true then v19 else v19) = Snap.data v21 ∧ (if v33 = true then v12 else v12) = Kept.entries v11 ∧ pickI v33 v27 v5 = Node.commit v4 ∧ pickI v33 v6 v6 = Node.lead v4 ∧ pickI v33 v9 v9 = Node.elapsed v4 ∧ pickI v33 v7 v7 = Node.round v4 ∧ Node.yes v0 = Node.yes v4 ∧ Node.peers v0 = Node.peers v4 ∧ Node.reads v0 = Node.reads v4 ∧ Out.records v1 = Out.records v8 ∧ Out.messages v1 = Out.messages v8 ∧ Out.ready v1 = Out.ready v8 ∧ Out.lost v1 = Out.lost v8 ∧ True)) (by intro x; kernel_rfl) ?_
  · simp [hV]
  rintro j hj
  simp only [imp_self, implies_true, true_and, and_true, decide_eq_true_eq, decide_eq_false_iff_not]
  refine ⟨fun h6 => ⟨⟨by omega, h6⟩, ?_⟩, fun h6 => ?_⟩
  · refine LoopG.head (fitsT tabRc1_ok fun _ => none) 1 (A := Nat) (fun i => i ≤ s.n.peers.length) (fun i => [(8, .int .i64 i), (7, .int .i64 (refM (V.getD j 0) (s.n.peers.take i) (pickI (V.getD j 0 == s.n.id) (lastC s.n.kept).1 0)))]) (fun i => []) (fun i => s.n.peers.length - i) 0 (Nat.zero_le _) /-0-/ (p0 := let v0 := Step.n s; let v1 := Step.o s; let v2 := Node.kept v0; let v3 := Out.messages v1; let v4 := Node.peers v0; let v5 := Node.reads v0; let v6 := Node.yes v0; let v7 := Node.commit v0; let v8 := Node.lead v0; let v9 := Out.lost v1; let v10 := Node.elapsed v0; let v11 := Node.round v0; let v12 := Node.role v0; let v13 := Out.ready v1; let v14 := Out.records v1; let v15 := Node.id v0; let v16 := Config.learners (confC v0); let v17 := Kept.entries v2; let v18 := Kept.vote v2; let v19 := Kept.term v2; let v20 := (↑j : Int); let v21 := Kept.snap v2; let v22 := Snap.index v21; let v23 := Snap.data v21; let v24 := Snap.config v21; let v25 := Snap.term v21; let v26 := (↑(List.length V) : Int); let v27 := Config.voters v24; let v28 := Config.learners v24; let v29 := Prod.fst (lastC v2); let v30 := List.map (matchI s) (List.take j V); let v31 := List.getD V j (0 : Int); let v32 := v31 == v15; let v33 := decide (v20 < v26); let v34 := pickI v32 v29 (0 : Int); (0 : Int) = (↑(0 : Nat) : Int) ∧ v34 = refM v31 (List.take (0 : Nat) v4) v34 ∧ v32 = v32 ∧ v15 = v15 ∧ v31 = v31 ∧ v20 = v20 ∧ V = V ∧ v33 = v33 ∧ v26 = v26 ∧ V = V ∧ v20 = v20 ∧ v20 = v20 ∧ v29 = v29 ∧ V = V ∧ v16 = v16 ∧ v30 = v30 ∧ v15 = v15 ∧ v12 = v12 ∧ v19 = v19 ∧ v18 = v18 ∧ v22 = v22 ∧ v25 = v25 ∧ v27 = v27 ∧ v28 = v28 ∧ v23 = v23 ∧ v17 = v17 ∧ v7 = v7 ∧ v8 = v8 ∧ v10 = v10 ∧ v11 = v11 ∧ v6 = v6 ∧ v4 = v4 ∧ v5 = v5 ∧ v14 = v14 ∧ v3 = v3 ∧ v13 = v13 ∧ v9 = v9 ∧ True) (by kernel_rfl) ?_ 300 (p := fun (x : Nat) (V_1 : List PE → Prop) => let v0 := Node.peers (Step.n s); let v1 := (↑x : Int); let v2 := List.length v0; let v3 := (0 : Int); let v4 := (↑v2 : Int); let v5 := List.getD V j v3; let v6 := decide (v1 < v4); True ∧ True ∧ (v6 = true → (v3 ≤ v1 ∧ v1 < v4 ∧ x < v2 ∧ v3 ≤ (↑j : Int) ∧ (↑j : Int) < (↑(List.length V) : Int) ∧ True) ∧ (((Peer.node (List.getD v0 x default) == v5) = true → v3 ≤ v1) ∧ ((Peer.node (List.getD v0 x default) == v5) = true → v1 < v4) ∧ ((Peer.node (List.getD v0 x default) == v5) = true → x < v2) ∧ True) ∧ True ∧ V_1 [PE.a]) ∧ (v6 = false → ((List.length (List.map (matchI s) (List.take j V)) + List.length [refM v5 (List.take x v0) (pickI (v5 == Node.id (Step.n s)) (Prod.fst (lastC (Node.kept (Step.n s)))) v3)]) * (1024 : Nat) ≤ (140737488355328 : Nat) ∧ True) ∧ True ∧ V_1 [PE.b])) (by intro x; kernel_rfl) ?_
    · simp [refM]
    rintro i hi
    simp only [imp_self, implies_true, true_and, and_true, decide_eq_true_eq, decide_eq_false_iff_not]
    have htl : (V.take j).length ≤ 4000 := by rw [hV] at hv; simp only [List.length_take]; omega
    refine ⟨fun h7 => ⟨⟨by omega, h7, by omega, by omega, h6⟩, ⟨fun _ => by omega, fun _ => h7, fun _ => by omega⟩, ?_⟩, fun h7 => ⟨by simp only [List.length_map, List.length_cons, List.length_nil]; omega, ?_⟩⟩
    · refine Back.mk (i + 1) (by show i + 1 ≤ _; omega) (by show _ - (i + 1) < _ - i; omega) /-0-/ (p0 := let v0 := Step.n s; let v1 := Step.o s; let v2 := Out.messages v1; let v3 := Node.peers v0; let v4 := Node.reads v0; let v5 := Node.yes v0; let v6 := Node.commit v0; let v7 := Node.lead v0; let v8 := Out.lost v1; let v9 := Node.elapsed v0; let v10 := Node.kept v0; let v11 := Node.round v0; let v12 := Node.role v0; let v13 := Out.ready v1; let v14 := Out.records v1; let v15 := Node.id v0; let v16 := Config.learners (confC v0); let v17 := (↑j : Int); let v18 := Kept.entries v10; let v19 := Kept.vote v10; let v20 := Kept.term v10; let v21 := Kept.snap v10; let v22 := Snap.index v21; let v23 := Snap.config v21; let v24 := Snap.data v21; let v25 := Snap.term v21; let v26 := (↑(List.length V) : Int); let v27 := Config.learners v23; let v28 := Config.voters v23; let v29 := Prod.fst (lastC v10); let v30 := List.map (matchI s) (List.take j V); let v31 := List.getD v3 i default; let v32 := List.getD V j (0 : Int); let v33 := v32 == v15; let v34 := decide (v17 < v26); let v35 := pickI v33 v29 (0 : Int); IntKind.wrap IntKind.i64 ((↑i : Int) + (1 : Int)) = (↑(i + (1 : Nat)) : Int) ∧ pickI (Peer.node v31 == v32) (Peer.match_ v31) (refM v32 (List.take i v3) v35) = refM v32 (List.take (i + (1 : Nat)) v3) v35 ∧ v33 = v33 ∧ v15 = v15 ∧ v32 = v32 ∧ v17 = v17 ∧ V = V ∧ v34 = v34 ∧ v26 = v26 ∧ V = V ∧ v17 = v17 ∧ v17 = v17 ∧ v29 = v29 ∧ V = V ∧ v16 = v16 ∧ v30 = v30 ∧ v15 = v15 ∧ v12 = v12 ∧ v20 = v20 ∧ v19 = v19 ∧ v22 = v22 ∧ v25 = v25 ∧ v28 = v28 ∧ v27 = v27 ∧ v24 = v24 ∧ v18 = v18 ∧ v6 = v6 ∧ v7 = v7 ∧ v9 = v9 ∧ v11 = v11 ∧ v5 = v5 ∧ v3 = v3 ∧ v4 = v4 ∧ v14 = v14 ∧ v2 = v2 ∧ v13 = v13 ∧ v8 = v8 ∧ True) (by kernel_rfl) ?_
      simp only [true_and, and_true]
      rw [take_snoc (d := (default : Peer)) (by omega), refM_app]
      refine ⟨wrapN (by omega), ?_⟩
      simp only [refM]
      by_cases g : (s.n.peers.getD i default).node = V.getD j 0 <;> simp [pickI, g]
    · obtain rfl : i = s.n.peers.length := by omega
      refine Back.up (Back.mk (j + 1) (by show j + 1 ≤ _; omega) (by show _ - (j + 1) < _ - j; omega) /-0-/ (p0 := let v0 := Step.n s; let v1 := Step.o s; let v2 := Out.messages v1; let v3 := Node.peers v0; let v4 := Node.reads v0; let v5 := Node.kept v0; let v6 := Node.yes v0; let v7 := Node.role v0; let v8 := Node.commit v0; let v9 := Node.lead v0; let v10 := Out.lost v1; let v11 := Node.round v0; let v12 := Out.records v1; let v13 := Node.elapsed v0; let v14 := Out.ready v1; let v15 := Node.id v0; let v16 := Kept.entries v5; let v17 := Kept.vote v5; let v18 := Kept.snap v5; let v19 := Kept.term v5; let v20 := Config.learners (confC v0); let v21 := Snap.config v18; let v22 := Snap.term v18; let v23 := Snap.index v18; let v24 := Snap.data v18; let v25 := Config.voters v21; let v26 := Config.learners v21; let v27 := Prod.fst (lastC v5); let v28 := List.getD V j (0 : Int); IntKind.wrap IntKind.i64 ((↑j : Int) + (1 : Int)) = (↑(j + (1 : Nat)) : Int) ∧ v27 = v27 ∧ V = V ∧ v20 = v20 ∧ List.map (matchI s) (List.take j V) ++ [refM v28 (List.take (List.length v3) v3) (pickI (v28 == v15) v27 (0 : Int))] = List.map (matchI s) (List.take (j + (1 : Nat)) V) ∧ v15 = v15 ∧ v7 = v7 ∧ v19 = v19 ∧ v17 = v17 ∧ v23 = v23 ∧ v22 = v22 ∧ v25 = v25 ∧ v26 = v26 ∧ v24 = v24 ∧ v16 = v16 ∧ v8 = v8 ∧ v9 = v9 ∧ v13 = v13 ∧ v11 = v11 ∧ v6 = v6 ∧ v3 = v3 ∧ v4 = v4 ∧ v12 = v12 ∧ v2 = v2 ∧ v14 = v14 ∧ v10 = v10 ∧ True) (by kernel_rfl) ?_)
      simp only [true_and, and_true]
      rw [take_snoc (d := (0 : Int)) (by omega), List.map_append, List.take_length, refM_eq hg]
      refine ⟨wrapN (by omega), ?_⟩
      have e : matchI s (V.getD j 0) = if 0 ≤ peerI s.n.peers (V.getD j 0) then (s.n.peers.getD (peerI s.n.peers (V.getD j 0)).toNat default).match_ else pickI (V.getD j 0 == s.n.id) (lastC s.n.kept).1 0 := by
        unfold matchI pickI
        by_cases h1 : 0 ≤ peerI s.n.peers (V.getD j 0) <;> by_cases h2 : V.getD j 0 = s.n.id <;> simp [h1, h2]
      simp only [List.map_cons, List.map_nil, e]
  · obtain rfl : j = V.length := by omega
    rw [List.take_length]
    have hL : V.map (matchI s) = haveL s := by rw [haveL, hV]
    rw [hL]
    have hll : (haveL s).length ≤ 4000 := by rw [haveL, List.length_map]; exact hv
    refine ⟨⟨by omega, by omega⟩, ?_⟩
    simp only [pickI_self, ite_self]
    unfold countS
    by_cases h1 : (termC s.n.kept (sureC (haveL s))).2 = 0 <;> by_cases h2 : (termC s.n.kept (sureC (haveL s))).1 = s.n.kept.term <;> by_cases h3 : s.n.commit < sureC (haveL s) <;> simp [pickB, pickI, h1, h2, h3]
    all_goals omega
def eRCount : Ent := entN0 120 3 mSt vrS [1] glS fun s => ([SmallN s.n, SmallO s.o, (confC s.n).voters.length ≤ 4000, (s.n.peers.map (·.node)).Nodup], .tup [], sMi 125 (countS s))
theorem eRCount_ok : EntOk Tryz.prog eRCount := entN0_ok (fnB Tryz.func120 (by decide) rfl) fun s h => rcount_fn s (h _ (by simp)) (h _ (by simp)) (h _ (by simp)) (h _ (by simp))
def LogG (k : Kept) : Prop := onC k = true ∧ k.snap.index + k.entries.length ≤ 900001000 ∧ k.entries.length < 10000
def addS (s : Step) (e : Entry) : Step := countS (layS s e)
noncomputable def tabRd1 : List Ent := [eRLay, eRCount]
theorem tabRd1_ok : ∀ e ∈ tabRd1, EntOk Tryz.prog e := tab_cons eRLay_ok (tab_cons eRCount_ok tab_nil)
theorem radd_fn (s : Step) (e : Entry) (hf : Few 80000 s) (he : SmallD e.config) (hg : LogG s.n.kept) (hd : (s.n.peers.map (·.node)).Nodup) : FnG Tryz.prog 107 3 (sMi 125 s) [.ptr 2 0, dEnt2.can e] (.tup []) (sMo 125 (addS s e)) := by
 refine FnG.of_vc (fitsT tabRd1_ok fun _ => none) Tryz.func107 rfl (by decide) rfl 300 (p := fun (V : List PE → Prop) => let v0 := Node.kept (Step.n s); let v1 := Step.o (addS s e); let v2 := Step.n (addS s e); let v3 := Step.n (layS s e); let v4 := countS (layS s e); let v5 := Step.o v4; let v6 := Node.kept v2; let v7 := Step.n v4; let v8 := Kept.snap v6; let v9 := List.length (Kept.entries v0); let v10 := Node.kept v7; let v11 := Snap.config v8; let v12 := Kept.snap v10; let v13 := Snap.config v12; True ∧ (SmallN (Step.n s) ∧ SmallO (Step.o s) ∧ SmallE e ∧ (onC v0 = true ∧ Snap.index (Kept.snap v0) + (↑v9 : Int) ≤ (900001000 : Int) ∧ v9 < (10000 : Nat)) ∧ True) ∧ (SmallN v3 ∧ SmallO (Step.o (layS s e)) ∧ List.length (Config.voters (confC v3)) ≤ (4000 : Nat) ∧ List.Nodup (List.map (fun (x : Peer) => Peer.node x) (Node.peers v3)) ∧ True) ∧ Node.id v7 = Node.id v2 ∧ Node.role v7 = Node.role v2 ∧ Kept.term v10 = Kept.term v6 ∧ Kept.vote v10 = Kept.vote v6 ∧ Snap.index v12 = Snap.index v8 ∧ Snap.term v12 = Snap.term v8 ∧ Config.voters v13 = Config.voters v11 ∧ Config.learners v13 = Config.learners v11 ∧ Snap.data v12 = Snap.data v8 ∧ Kept.entries v10 = Kept.entries v6 ∧ Node.commit v7 = Node.commit v2 ∧ Node.lead v7 = Node.lead v2 ∧ Node.elapsed v7 = Node.elapsed v2 ∧ Node.round v7 = Node.round v2 ∧ Node.yes v7 = Node.yes v2 ∧ Node.peers v7 = Node.peers v2 ∧ Node.reads v7 = Node.reads v2 ∧ Out.records v5 = Out.records v1 ∧ Out.messages v5 = Out.messages v1 ∧ Out.ready v5 = Out.ready v1 ∧ Out.lost v5 = Out.lost v1 ∧ True) (by kernel_rfl) ?_
 simp only [imp_self, implies_true, true_and, and_true, pickB_f, pickB_t]
 have k1 := hf.lay he
 refine ⟨⟨hf.sn (by decide), hf.so (by decide), he.c, hg⟩, ⟨k1.sn (by decide), k1.so (by decide), k1.cf.1, hd⟩, ?_⟩
 repeat' apply And.intro
 all_goals rfl
def eRAdd : Ent := entL1 107 3 mSt dEnt2 vrS [1, 2] glS fun s e => ([Few 80000 s, SmallD e.config, LogG s.n.kept, (s.n.peers.map (·.node)).Nodup], .tup [], sMo 125 (addS s e))
theorem eRAdd_ok : EntOk Tryz.prog eRAdd := entL1_ok (fnB Tryz.func107 (by decide) rfl) fun s e h => radd_fn s e (h _ (by simp)) (h _ (by simp)) (h _ (by simp)) (h _ (by simp))
theorem nodup_lt : ∀ {l : List Int}, l.Pairwise (· < ·) → l.Nodup := fun h => h.imp fun h => by omega
theorem others_nodup (n : Node) : (othersC n).Nodup := List.Nodup.sublist (List.filter_sublist ..) (nodup_lt (allC_asc (confC n)).1)
noncomputable def tabRd2 : List Ent := [eRLastC, eROth, eRAdd, eRAll18]
theorem tabRd2_ok : ∀ e ∈ tabRd2, EntOk Tryz.prog e := tab_cons eRLastC_ok (tab_cons eROth_ok (tab_cons eRAdd_ok (tab_cons eRAll18_ok tab_nil)))
theorem rlead_fn (s : Step) (hf : Few 80000 s) (hg : LogG s.n.kept) : FnG Tryz.prog 191 3 (sMi 125 s) [.ptr 2 0] (.tup []) (sMo 125 (ruleS s)) := by
 refine FnG.of_vc (fitsT tabRd2_ok fun _ => none) Tryz.func191 rfl (by decide) rfl 300 (p := fun (V : List PE → Prop) => let v0 := Step.n s; let v1 := Node.peers v0; let v2 := Node.reads v0; let v3 := Node.id v0; True ∧ True ∧ True ∧ True ∧ True ∧ (List.length v1 ≤ (17592186044416 : Nat) ∧ List.length v2 ≤ (17592186044416 : Nat) ∧ SmallN (Node.mk v3 (4 : Int) (Node.kept v0) (Node.commit v0) v3 (0 : Int) [] v1 (Node.round v0) v2) ∧ True) ∧ True ∧ True ∧ V []) (by kernel_rfl) ?_
 simp only [imp_self, implies_true, true_and, and_true, pickB_f, pickB_t]
 have hol : (othersC s.n).length ≤ 16 := Nat.le_trans (List.length_filter_le _ _) (allC_asc (confC s.n)).2
 have hsn := hf.sn (by decide)
 have hso := hf.so (by decide)
 obtain ⟨b1, b2, b3, b4, b5⟩ := hsn.ls
 obtain ⟨c1, c2, c3, c4⟩ := hso.ls
 obtain ⟨L, hL⟩ : ∃ L, othersC s.n = L := ⟨_, rfl⟩
 refine ⟨⟨b3, b4, ⟨hsn.k, Nat.zero_le _, hsn.peers, hsn.reads⟩⟩, ?_⟩
 refine LoopG.head (fitsT tabRd2_ok fun _ => none) 0 (A := Nat) (fun j => j ≤ L.length) (fun j => [(5, .int .i64 j), (4, .sl [900] (.rInts L))]) (fun j => [(2, .cells 125 (sCs [1] (leadS s ((L.take j).map (peer0 s))) 13 12 5 6 7 8 9)), (12, .row 94 [] (.rPeer ((L.take j).map (peer0 s)))), (13, .row 3 [] (.rInts [])), (900, .dead)]) (fun j => L.length - j) 0 (Nat.zero_le _) /-0-/ (p0 := let v0 := Step.n s; let v1 := Step.o s; let v2 := Node.round v0; let v3 := Out.ready v1; let v4 := Out.lost v1; let v5 := Out.messages v1; let v6 := Node.peers v0; let v7 := Out.records v1; let v8 := Node.id v0; let v9 := Node.reads v0; let v10 := Node.kept v0; let v11 := Node.commit v0; let v12 := Node.yes v0; let v13 := Kept.snap v10; let v14 := Snap.config v13; let v15 := Prod.fst (lastC v10); let v16 := List.map (peer0 s) (List.take (0 : Nat) L); let v17 := Step.n (leadS s v16); let v18 := Node.kept v17; let v19 := Kept.snap v18; let v20 := Snap.config v19; (0 : Int) = (↑(0 : Nat) : Int) ∧ othersC (Node.mk v8 (4 : Int) v10 v11 v8 (0 : Int) [] v6 v2 v9) = L ∧ v15 = v15 ∧ v8 = Node.id v17 ∧ (4 : Int) = Node.role v17 ∧ Kept.term v10 = Kept.term v18 ∧ Kept.vote v10 = Kept.vote v18 ∧ Snap.index v13 = Snap.index v19 ∧ Snap.term v13 = Snap.term v19 ∧ Config.voters v14 = Config.voters v20 ∧ Config.learners v14 = Config.learners v20 ∧ Snap.data v13 = Snap.data v19 ∧ Kept.entries v10 = Kept.entries v18 ∧ v11 = Node.commit v17 ∧ v8 = Node.lead v17 ∧ (0 : Int) = Node.elapsed v17 ∧ v2 = Node.round v17 ∧ v16 = [] ∧ eqNil Int ∧ v12 = v12 ∧ v6 = v6 ∧ v9 = v9 ∧ v7 = v7 ∧ v5 = v5 ∧ v3 = v3 ∧ v4 = v4 ∧ True) (by kernel_rfl) ?_ 300 (p := fun (x : Nat) (V : List PE → Prop) => let v0 := Step.o (ruleS s); let v1 := Step.n (ruleS s); let v2 := (↑x : Int); let v3 := Node.kept v1; let v4 := (0 : Int); let v5 := Kept.snap v3; let v6 := Snap.config v5; let v7 := (↑(List.length L) : Int); let v8 := List.map (peer0 s) (List.take x L); let v9 := Step.n (leadS s v8); let v10 := Node.kept v9; let v11 := decide (v2 < v7); let v12 := Step.mk (Node.mk (Node.id v9) (Node.role v9) v10 (Node.commit v9) (Node.lead v9) (Node.elapsed v9) [] v8 (Node.round v9) (Node.reads (Step.n s))) (Step.o s); let v13 := addS v12 (Entry.mk v4 v4 (1 : Int) (Config.mk [] []) (ByteArray.mk #[])); let v14 := allS v13; let v15 := Step.n v13; let v16 := Step.o v14; let v17 := Step.n v14; let v18 := Node.kept v17; let v19 := Kept.snap v18; let v20 := Snap.config v19; True ∧ True ∧ (v11 = true → (v4 ≤ v2 ∧ v2 < v7 ∧ (List.length v8 + List.length [Peer.mk (List.getD L x v4) (IntKind.wrap IntKind.i64 (Prod.fst (lastC (Node.kept (Step.n s))) + (1 : Int))) v4 v4]) * (1024 : Nat) ≤ (140737488355328 : Nat) ∧ True) ∧ True ∧ V [PE.a]) ∧ (v11 = false → (Few (80000 : Nat) v12 ∧ SmallD (Config.mk [] []) ∧ LogG v10 ∧ List.Nodup (List.map (fun (x : Peer) => Peer.node x) v8) ∧ True) ∧ (SmallN v15 ∧ List.length (Out.messages (Step.o v13)) + List.length (Node.peers v15) ≤ (1000000 : Nat) ∧ True) ∧ Node.id v17 = Node.id v1 ∧ Node.role v17 = Node.role v1 ∧ Kept.term v18 = Kept.term v3 ∧ Kept.vote v18 = Kept.vote v3 ∧ Snap.index v19 = Snap.index v5 ∧ Snap.term v19 = Snap.term v5 ∧ Config.voters v20 = Config.voters v6 ∧ Config.learners v20 = Config.learners v6 ∧ Snap.data v19 = Snap.data v5 ∧ Kept.entries v18 = Kept.entries v3 ∧ Node.commit v17 = Node.commit v1 ∧ Node.lead v17 = Node.lead v1 ∧ Node.elapsed v17 = Node.elapsed v1 ∧ Node.round v17 = Node.round v1 ∧ Node.yes v17 = Node.yes v1 ∧ Node.peers v17 = Node.peers v1 ∧ Node.reads v17 = Node.reads v1 ∧ Out.records v16 = Out.records v0 ∧ Out.messages v16 = Out.messages v0 ∧ Out.ready v16 = Out.ready v0 ∧ Out.lost v16 = Out.lost v0 ∧ True)) (by intro x; kernel_rfl) ?_
 ·refine ⟨rfl, hL, ?_⟩
  simp [leadS]
 rintro j hj
 simp only [imp_self, implies_true, true_and, and_true, decide_eq_true_eq, decide_eq_false_iff_not]
 have hml : (List.map (peer0 s) (List.take j L)).length ≤ 16 := by simp only [List.length_map, List.length_take]; rw [← hL]; omega
 have hle : ∀ ps : List Peer, ps.length ≤ 5000 → Few 80000 (leadS s ps) := fun ps h => ⟨hf.entries, hf.ec, hf.sc, Nat.zero_le _, h, hf.reads, hf.records, hf.messages, hf.ready, hf.lost⟩
 refine ⟨fun h6 => ?_, fun h6 => ?_⟩
 ·refine ⟨⟨by omega, h6, by simp only [List.length_cons, List.length_nil]; omega⟩, ?_⟩
  refine Back.mk (j + 1) (by show j + 1 ≤ _; omega) (by show _ - (j + 1) < _ - j; omega) /-0-/ (p0 := let v0 := Step.o s; let v1 := Step.n s; let v2 := Out.messages v0; let v3 := Out.ready v0; let v4 := Out.lost v0; let v5 := Out.records v0; let v6 := Node.peers v1; let v7 := Node.reads v1; let v8 := Node.yes v1; let v9 := Prod.fst (lastC (Node.kept v1)); let v10 := List.map (peer0 s) (List.take j L); let v11 := Step.n (leadS s v10); let v12 := Node.kept v11; let v13 := Kept.snap v12; let v14 := Snap.config v13; let v15 := List.map (peer0 s) (List.take (j + (1 : Nat)) L); let v16 := Step.n (leadS s v15); let v17 := Node.kept v16; let v18 := Kept.snap v17; let v19 := Snap.config v18; IntKind.wrap IntKind.i64 ((↑j : Int) + (1 : Int)) = (↑(j + (1 : Nat)) : Int) ∧ L = L ∧ v9 = v9 ∧ Node.id v11 = Node.id v16 ∧ Node.role v11 = Node.role v16 ∧ Kept.term v12 = Kept.term v17 ∧ Kept.vote v12 = Kept.vote v17 ∧ Snap.index v13 = Snap.index v18 ∧ Snap.term v13 = Snap.term v18 ∧ Config.voters v14 = Config.voters v19 ∧ Config.learners v14 = Config.learners v19 ∧ Snap.data v13 = Snap.data v18 ∧ Kept.entries v12 = Kept.entries v17 ∧ Node.commit v11 = Node.commit v16 ∧ Node.lead v11 = Node.lead v16 ∧ Node.elapsed v11 = Node.elapsed v16 ∧ Node.round v11 = Node.round v16 ∧ v10 ++ [Peer.mk (List.getD L j (0 : Int)) (IntKind.wrap IntKind.i64 (v9 + (1 : Int))) (0 : Int) (0 : Int)] = v15 ∧ eqNil Int ∧ v8 = v8 ∧ v6 = v6 ∧ v7 = v7 ∧ v5 = v5 ∧ v2 = v2 ∧ v3 = v3 ∧ v4 = v4 ∧ True) (by kernel_rfl) ?_
  have e1 := take_snoc (l := L) (d := (0 : Int)) (i := j) (by omega)
  rw [hL] at hol
  simp only [wrapN (i := j) (by omega), e1, List.map_append, List.map_cons, List.map_nil, true_and, and_true]
  refine ⟨by omega, ?_⟩
  simp [leadS, peer0]
 ·obtain rfl : j = L.length := by omega
  rw [List.take_length] at hml ⊢
  have k1 := hle _ (show (L.map (peer0 s)).length ≤ 5000 by omega)
  have k2 := k1.lay (e := noneE) smallD0
  have k3 := k2.count
  have hd : ((leadS s (L.map (peer0 s))).n.peers.map (·.node)).Nodup := by
   show ((L.map (peer0 s)).map (·.node)).Nodup
   rw [List.map_map, show ((fun p : Peer => p.node) ∘ peer0 s) = id from rfl, List.map_id, ← hL]
   exact others_nodup s.n
  have e : ruleS s = allS (addS (leadS s (L.map (peer0 s))) noneE) := by rw [ruleS, ledS, hL]; rfl
  refine ⟨⟨k1, smallD0, hg, hd⟩, ⟨k3.sn (by decide), ?_⟩, ?_⟩
  ·have h1 := k3.messages
   have h2 := k3.peers
   exact Nat.le_trans (Nat.add_le_add h1 h2) (by decide)
  ·rw [e]
   repeat' apply And.intro
   all_goals rfl
def eRLead : Ent := entN0 191 3 mSt vrS [1] glS fun s => ([Few 80000 s, LogG s.n.kept], .tup [], sMo 125 (ruleS s))
theorem eRLead_ok : EntOk Tryz.prog eRLead := entN0_ok (fnB Tryz.func191 (by decide) rfl) fun s h => rlead_fn s (h _ (by simp)) (h _ (by simp))
noncomputable def tabRd3 : List Ent := [eRVoteW, eREnough, eRLead, eRVoters]
theorem tabRd3_ok : ∀ e ∈ tabRd3, EntOk Tryz.prog e := tab_cons eRVoteW_ok (tab_cons eREnough_ok (tab_cons eRLead_ok (tab_cons eRVoters_ok tab_nil)))
def TermG (k : Kept) : Prop := 0 ≤ k.term ∧ k.term ≤ 900000001
theorem rstand_fn (s : Step) (hf : Few 70000 s) (hg : LogG s.n.kept) (ht : TermG s.n.kept) : FnG Tryz.prog 145 3 (sMi 125 s) [.ptr 2 0] (.tup []) (sMo 125 (standS s)) := by
 refine FnG.of_vc (fitsT tabRd3_ok fun _ => none) Tryz.func145 rfl (by decide) rfl 300 (p := fun (V : List PE → Prop) => let v0 := Step.n s; let v1 := Node.kept v0; let v2 := Step.n (standS s); let v3 := Node.id v0; let v4 := Step.o (standS s); let v5 := Out.messages v4; let v6 := Node.role v2; let v7 := Node.kept v2; let v8 := Node.elapsed v2; let v9 := Node.commit v2; let v10 := Out.lost v4; let v11 := Node.round v2; let v12 := Node.yes v2; let v13 := Out.ready v4; let v14 := Node.reads v2; let v15 := Node.lead v2; let v16 := Node.id v2; let v17 := Node.peers v2; let v18 := Out.records v4; let v19 := Kept.term v7; let v20 := (0 : Int); let v21 := Kept.entries v7; let v22 := Kept.vote v7; let v23 := Kept.snap v7; let v24 := Snap.data v23; let v25 := Snap.index v23; let v26 := Snap.term v23; let v27 := Snap.config v23; let v28 := Config.voters v27; let v29 := Config.learners v27; let v30 := voteW (IntKind.wrap IntKind.i64 (Kept.term v1 + (1 : Int))) v3; let v31 := recS (Step.mk (Node.mk v3 (3 : Int) v1 (Node.commit v0) v20 v20 [v3] (Node.peers v0) (Node.round v0) (Node.reads v0)) (Step.o s)) v30; let v32 := Step.n v31; let v33 := ruleS v31; let v34 := Step.o v31; let v35 := Step.n v33; let v36 := Step.o v33; let v37 := enoughB v32; let v38 := Node.kept v35; let v39 := List.length (Out.messages v34); let v40 := Kept.snap v38; let v41 := Snap.config v40; let v42 := askS v31 (Message.mk (3 : Int) v20 v20 v20 v20 v20 [] v20 v20 false (Snap.mk v20 v20 (Config.mk [] []) (ByteArray.mk #[])) v20 v20 (ByteArray.mk #[])); let v43 := Step.o v42; let v44 := Step.n v42; let v45 := Node.kept v44; let v46 := Kept.snap v45; let v47 := Snap.config v46; True ∧ True ∧ True ∧ True ∧ (List.length (Out.records (Step.o s)) ≤ (1000000 : Nat) ∧ SmallK v1 ∧ foldOk v1 v30 ∧ True) ∧ (List.length (Node.yes v32) ≤ (17592186044416 : Nat) ∧ List.length (Node.peers v32) ≤ (17592186044416 : Nat) ∧ List.length (Node.reads v32) ≤ (17592186044416 : Nat) ∧ List.length (Out.records v34) ≤ (17592186044416 : Nat) ∧ v39 ≤ (17592186044416 : Nat) ∧ List.length (Out.ready v34) ≤ (17592186044416 : Nat) ∧ List.length (Out.lost v34) ≤ (17592186044416 : Nat) ∧ SmallN v32 ∧ True) ∧ True ∧ (v37 = true → (Few (80000 : Nat) v31 ∧ LogG (Node.kept v32) ∧ True) ∧ Node.id v35 = v16 ∧ Node.role v35 = v6 ∧ Kept.term v38 = v19 ∧ Kept.vote v38 = v22 ∧ Snap.index v40 = v25 ∧ Snap.term v40 = v26 ∧ Config.voters v41 = v28 ∧ Config.learners v41 = v29 ∧ Snap.data v40 = v24 ∧ Kept.entries v38 = v21 ∧ Node.commit v35 = v9 ∧ Node.lead v35 = v15 ∧ Node.elapsed v35 = v8 ∧ Node.round v35 = v11 ∧ Node.yes v35 = v12 ∧ Node.peers v35 = v17 ∧ Node.reads v35 = v14 ∧ Out.records v36 = v18 ∧ Out.messages v36 = v5 ∧ Out.ready v36 = v13 ∧ Out.lost v36 = v10 ∧ True) ∧ (v37 = false → (SmallN v32 ∧ SmallO v34 ∧ v39 ≤ (900000 : Nat) ∧ List.length (Config.voters (confC v32)) ≤ (4000 : Nat) ∧ True) ∧ Node.id v44 = v16 ∧ Node.role v44 = v6 ∧ Kept.term v45 = v19 ∧ Kept.vote v45 = v22 ∧ Snap.index v46 = v25 ∧ Snap.term v46 = v26 ∧ Config.voters v47 = v28 ∧ Config.learners v47 = v29 ∧ Snap.data v46 = v24 ∧ Kept.entries v45 = v21 ∧ Node.commit v44 = v9 ∧ Node.lead v44 = v15 ∧ Node.elapsed v44 = v8 ∧ Node.round v44 = v11 ∧ Node.yes v44 = v12 ∧ Node.peers v44 = v17 ∧ Node.reads v44 = v14 ∧ Out.records v43 = v18 ∧ Out.messages v43 = v5 ∧ Out.ready v43 = v13 ∧ Out.lost v43 = v10 ∧ True)) (by kernel_rfl) ?_
 simp only [imp_self, implies_true, true_and, and_true, pickB_f, pickB_t]
 have k1 := hf.stand1
 obtain ⟨b1, b2, b3, b4, b5⟩ := (k1.sn (by decide)).ls
 obtain ⟨c1, c2, c3, c4⟩ := (k1.so (by decide)).ls
 have hw : IntKind.i64.wrap (s.n.kept.term + 1) = s.n.kept.term + 1 := wrapI ⟨by have := ht.1; omega, by have := ht.2; omega⟩
 have hfo : foldOk s.n.kept (voteW (IntKind.i64.wrap (s.n.kept.term + 1)) s.n.id) := ⟨hg.1, by have := hg.2.1; omega, .inl ⟨rfl, by show s.n.kept.term ≤ IntKind.i64.wrap (s.n.kept.term + 1); rw [hw]; omega⟩⟩
 have hg1 : LogG (stand1 s).n.kept := hg
 refine ⟨⟨(hf.so (by decide)).records, (hf.sn (by decide)).k, hfo⟩, ⟨b2, b3, b4, c1, c2, c3, c4, k1.sn (by decide)⟩, fun h => ?_, fun h => ?_⟩
 ·have h : enoughB (stand1 s).n = true := h
  rw [standS, if_pos h]
  refine ⟨⟨k1.mono (by decide), hg1⟩, ?_⟩
  repeat' apply And.intro
  all_goals rfl
 ·have h : enoughB (stand1 s).n = false := h
  rw [standS, if_neg (by rw [h]; decide)]
  refine ⟨⟨k1.sn (by decide), k1.so (by decide), Nat.le_trans k1.messages (by decide), k1.cf.1⟩, ?_⟩
  repeat' apply And.intro
  all_goals rfl
def eRStand : Ent := entN0 145 3 mSt vrS [1] glS fun s => ([Few 70000 s, LogG s.n.kept, TermG s.n.kept], .tup [], sMo 125 (standS s))
theorem eRStand_ok : EntOk Tryz.prog eRStand := entN0_ok (fnB Tryz.func145 (by decide) rfl) fun s h => rstand_fn s (h _ (by simp)) (h _ (by simp)) (h _ (by simp))
def outZ : Out := ⟨[], [], [], []⟩
def stepZ (n : Node) : Step := ⟨n, outZ⟩
def beginMo (n : Node) : List BE := [.dead, .dead, .cells 115 (n.osvs [1] 3 4 5 6 ++ [.nil, .nil, .nil, .nil]), .row 89 [1] (.rEntry n.kept.entries), .row 3 [] (.rInts n.yes), .row 94 [] (.rPeer n.peers), .row 96 [] (.rRead n.reads)]
def tabE2 : List Ent := [eCheck18, eOwnN]
theorem tabE2_ok : ∀ e ∈ tabE2, EntOk Tryz.prog e := tab_cons eCheck18_ok (tab_cons eOwnN_ok tab_nil)
theorem beginN_fn (n : Node) (hn : SmallN n) (hr : rightC n = false) : FnC Tryz.prog 73 [dNode.can n] (.tup [.any, .int .i64 1]) D2 := by
 refine FnG.of_vc (fitsT tabE2_ok fun _ => none) Tryz.func73 rfl (by decide) rfl 300 (p := fun (V : List PE → Prop) => let v0 := errC n != (0 : Int); True ∧ (SmallN n ∧ True) ∧ True ∧ True ∧ (v0 = true → True ∧ errC n = (1 : Int) ∧ True) ∧ (v0 = false → (SmallN n ∧ True) ∧ (0 : Int) = (1 : Int) ∧ True)) (by kernel_rfl) ?_
 simp only [imp_self, implies_true, true_and, and_true, pickB_f, pickB_t]
 refine ⟨hn, fun h => ?_, fun h => ?_⟩
 ·rw [errC, hr]; rfl
 ·rw [errC, hr] at h; exact absurd h (by decide)
theorem beginY_fn (n : Node) (hn : SmallN n) (hr : rightC n = true) : FnC Tryz.prog 73 [dNode.can n] (.tup [.ptr 2 0, .int .i64 0]) (beginMo n) := by
 refine FnG.of_vc (fitsT tabE2_ok fun _ => none) Tryz.func73 rfl (by decide) rfl 300 (p := fun (V : List PE → Prop) => let v0 := Node.kept n; let v1 := Kept.term v0; let v2 := Kept.snap v0; let v3 := Kept.entries v0; let v4 := Kept.vote v0; let v5 := Snap.term v2; let v6 := Snap.index v2; let v7 := Snap.config v2; let v8 := Snap.data v2; let v9 := Config.voters v7; let v10 := Config.learners v7; let v11 := errC n != (0 : Int); True ∧ (SmallN n ∧ True) ∧ True ∧ True ∧ (v11 = true → True ∧ False) ∧ (v11 = false → (SmallN n ∧ True) ∧ (0 : Int) = (0 : Int) ∧ Node.id n = Node.id n ∧ Node.role n = Node.role n ∧ v1 = v1 ∧ v4 = v4 ∧ v6 = v6 ∧ v5 = v5 ∧ v9 = v9 ∧ v10 = v10 ∧ v8 = v8 ∧ Node.commit n = Node.commit n ∧ Node.lead n = Node.lead n ∧ Node.elapsed n = Node.elapsed n ∧ Node.round n = Node.round n ∧ v3 = v3 ∧ Node.yes n = Node.yes n ∧ Node.peers n = Node.peers n ∧ Node.reads n = Node.reads n ∧ True)) (by kernel_rfl) ?_
 simp only [imp_self, implies_true, true_and, and_true, pickB_f, pickB_t]
 refine ⟨hn, fun h => ?_, fun h => ?_⟩
 ·rw [errC, hr] at h; exact absurd h (by decide)
 exact hn
abbrev D11 : List BE := [.dead, .dead, .dead, .dead, .dead, .dead, .dead, .dead, .dead, .dead, .dead]
def endO (s : Step) : SV := .tup [.agg (s.n.svs [1, 4]), .agg (s.o.svs [2, 3]), .int .i64 0]
theorem end_fn (s : Step) (hn : SmallN s.n) (ho : SmallO s.o) : FnG Tryz.prog 81 3 (wMi s) [.ptr 2 0] (endO s) D11 := by
 refine FnG.of_vc (fitsT tab_nil fun _ => none) Tryz.func81 rfl (by decide) rfl 300 (p := fun (V : List PE → Prop) => let v0 := Step.o s; let v1 := Step.n s; let v2 := Out.ready v0; let v3 := Out.records v0; let v4 := Node.reads v1; let v5 := Node.yes v1; let v6 := Node.id v1; let v7 := Out.messages v0; let v8 := Node.elapsed v1; let v9 := Node.peers v1; let v10 := Node.role v1; let v11 := Node.kept v1; let v12 := Node.lead v1; let v13 := Node.commit v1; let v14 := Out.lost v0; let v15 := Node.round v1; let v16 := Kept.entries v11; let v17 := Kept.snap v11; let v18 := Kept.term v11; let v19 := Kept.vote v11; let v20 := Snap.index v17; let v21 := Snap.config v17; let v22 := Snap.data v17; let v23 := Snap.term v17; let v24 := Config.voters v21; let v25 := Config.learners v21; True ∧ True ∧ v6 = v6 ∧ v10 = v10 ∧ v18 = v18 ∧ v19 = v19 ∧ v20 = v20 ∧ v23 = v23 ∧ v24 = v24 ∧ v25 = v25 ∧ v22 = v22 ∧ v16 = v16 ∧ List.length v16 ≤ (17592186044416 : Nat) ∧ v13 = v13 ∧ v12 = v12 ∧ v8 = v8 ∧ v5 = v5 ∧ List.length v5 ≤ (17592186044416 : Nat) ∧ v9 = v9 ∧ List.length v9 ≤ (17592186044416 : Nat) ∧ v15 = v15 ∧ v4 = v4 ∧ List.length v4 ≤ (17592186044416 : Nat) ∧ v3 = v3 ∧ List.length v3 ≤ (17592186044416 : Nat) ∧ v7 = v7 ∧ List.length v7 ≤ (17592186044416 : Nat) ∧ v2 = v2 ∧ List.length v2 ≤ (17592186044416 : Nat) ∧ v14 = v14 ∧ List.length v14 ≤ (17592186044416 : Nat) ∧ (0 : Int) = (0 : Int) ∧ True) (by kernel_rfl) ?_
 simp only [imp_self, implies_true, true_and, and_true, pickB_f, pickB_t]
 obtain ⟨b1, b2, b3, b4, b5⟩ := hn.ls
 obtain ⟨c1, c2, c3, c4⟩ := ho.ls
 exact ⟨b1, b2, b3, b4, c1, c2, c3, c4⟩
def eEnd : Ent := entN0 81 3 mW vrW [1] glW fun s => ([SmallN s.n, SmallO s.o], endO s, D11)
theorem eEnd_ok : EntOk Tryz.prog eEnd := entN0_ok (fnB Tryz.func81 (by decide) rfl) fun s h => end_fn s (h _ (by simp)) (h _ (by simp))
def eBegN : Ent := ent1 73 dNode fun n => ([SmallN n, rightC n = false], .tup [.any, .int .i64 1], D2)
theorem eBegN_ok : EntOk Tryz.prog eBegN := ent1_ok (fnB Tryz.func73 (by decide) rfl) fun n h => beginN_fn n (h _ (by simp)) (h _ (by simp))
def eBegY : Ent := ent1 73 dNode fun n => ([SmallN n, rightC n = true], .tup [.ptr 2 0, .int .i64 0], beginMo n)
theorem eBegY_ok : EntOk Tryz.prog eBegY := ent1_ok (fnB Tryz.func73 (by decide) rfl) fun n h => beginY_fn n (h _ (by simp)) (h _ (by simp))
abbrev D3d : List BE := [.dead, .dead, .dead]
def refO (n : Node) (o : Out) (e : Int) : SV := .tup [.agg (n.svs [1]), .agg (o.svs [2]), .int .i64 e]
theorem refused_fn (e : Int) : FnC Tryz.prog 74 [dInt.can e] (refO zeroN outZ e) D3d := by
 refine FnG.of_vc (fitsT tab_nil fun _ => none) Tryz.func74 rfl (by decide) rfl 300 (p := fun (V : List PE → Prop) => let v0 := Node.kept zeroN; let v1 := Kept.snap v0; let v2 := Snap.config v1; let v3 := (0 : Int); True ∧ True ∧ v3 = Node.id zeroN ∧ v3 = Node.role zeroN ∧ v3 = Kept.term v0 ∧ v3 = Kept.vote v0 ∧ v3 = Snap.index v1 ∧ v3 = Snap.term v1 ∧ Config.voters v2 = [] ∧ Config.learners v2 = [] ∧ ByteArray.mk #[] = Snap.data v1 ∧ Kept.entries v0 = [] ∧ v3 = Node.commit zeroN ∧ v3 = Node.lead zeroN ∧ v3 = Node.elapsed zeroN ∧ Node.yes zeroN = [] ∧ Node.peers zeroN = [] ∧ v3 = Node.round zeroN ∧ Node.reads zeroN = [] ∧ Out.records outZ = [] ∧ Out.messages outZ = [] ∧ Out.ready outZ = [] ∧ Out.lost outZ = [] ∧ e = e ∧ True) (by kernel_rfl) ?_
 simp only [imp_self, implies_true, true_and, and_true, pickB_f, pickB_t]
 repeat' apply And.intro
 all_goals rfl
def eRefused : Ent := ent1 74 dInt fun e => ([], refO zeroN outZ e, D3d)
theorem eRefused_ok : EntOk Tryz.prog eRefused := ent1_ok (refused_fn 0).1 fun n h => refused_fn n
def tabT0 : List Ent := [eBegN, eRefused]
theorem tabT0_ok : ∀ e ∈ tabT0, EntOk Tryz.prog e := tab_cons eBegN_ok (tab_cons eRefused_ok tab_nil)
theorem tickN_fn (n : Node) (hn : SmallN n) (hr : rightC n = false) : FnC Tryz.prog 25 [dNode.can n] (refO zeroN outZ 1) D3d := by
 refine FnG.of_vc (fitsT tabT0_ok fun _ => none) Tryz.func25 rfl (by decide) rfl 300 (p := fun (V : List PE → Prop) => let v0 := Node.commit zeroN; let v1 := Out.messages outZ; let v2 := Node.kept zeroN; let v3 := Node.elapsed zeroN; let v4 := Kept.vote v2; let v5 := Kept.entries v2; let v6 := Kept.snap v2; let v7 := Kept.term v2; let v8 := Snap.term v6; let v9 := Snap.data v6; let v10 := Snap.config v6; let v11 := Snap.index v6; let v12 := Config.voters v10; let v13 := Config.learners v10; let v14 := (1 : Int) != (0 : Int); True ∧ (SmallN n ∧ rightC n = false ∧ True) ∧ True ∧ True ∧ (v14 = true → True ∧ Node.id zeroN = Node.id zeroN ∧ Node.role zeroN = Node.role zeroN ∧ v7 = v7 ∧ v4 = v4 ∧ v11 = v11 ∧ v8 = v8 ∧ v12 = v12 ∧ v13 = v13 ∧ v9 = v9 ∧ v5 = v5 ∧ v0 = v0 ∧ Node.lead zeroN = Node.lead zeroN ∧ v3 = v3 ∧ Node.yes zeroN = Node.yes zeroN ∧ Node.peers zeroN = Node.peers zeroN ∧ Node.round zeroN = Node.round zeroN ∧ Node.reads zeroN = Node.reads zeroN ∧ Out.records outZ = Out.records outZ ∧ v1 = v1 ∧ Out.ready outZ = Out.ready outZ ∧ Out.lost outZ = Out.lost outZ ∧ (1 : Int) = (1 : Int) ∧ True) ∧ (v14 = false → False)) (by kernel_rfl) ?_
 simp only [imp_self, implies_true, true_and, and_true, pickB_f, pickB_t]
 exact ⟨⟨hn, hr⟩, fun h => absurd h (by decide)⟩
noncomputable def tabT1 : List Ent := [eBegY, eRefused, eAllW, ePat, eConfN, eVoter, eRun, eStand, eAskW, eEnd]
theorem tabT1_ok : ∀ e ∈ tabT1, EntOk Tryz.prog e := tab_cons eBegY_ok (tab_cons eRefused_ok (tab_cons eAllW_ok (tab_cons ePat_ok (tab_cons eConfN_ok (tab_cons eVoter_ok (tab_cons eRun_ok (tab_cons eStand_ok (tab_cons eAskW_ok (tab_cons eEnd_ok tab_nil)))))))))
def elap (n : Node) : Int := if (1000 : Int) < IntKind.i64.wrap (n.elapsed + 1) then 1000 else IntKind.i64.wrap (n.elapsed + 1)
def tick1 (n : Node) : Step := ⟨{ n with elapsed := elap n }, outZ⟩
def voterB (n : Node) : Bool := hasB (confC n).voters n.id && mayC (confC n)
def probeM (n : Node) : Message := ⟨1, 0, 0, IntKind.i64.wrap (n.kept.term + 1), 0, 0, [], 0, 0, false, zSnap, 0, 0, zs⟩
def tickS (n : Node) : Step :=
 if n.role = 4 then (if 2 ≤ elap n then allS ⟨{ n with elapsed := 0 }, outZ⟩ else tick1 n)
 else if elap n < patI n ∨ voterB n = false then tick1 n
 else if enoughB (runS (tick1 n) 2).n then standS (runS (tick1 n) 2) else askS (runS (tick1 n) 2) (probeM n)
theorem Few.tick1 {B : Nat} {n : Node} (h : Few B (stepZ n)) : Few B (tick1 n) := ⟨h.entries, h.ec, h.sc, h.yes, h.peers, h.reads, h.records, h.messages, h.ready, h.lost⟩
theorem tickY_fn (n : Node) (hn : SmallN n) (hr : rightC n = true) (hf : Few 50000 (stepZ n)) : FnC Tryz.prog 25 [dNode.can n] (refO (tickS n).n (tickS n).o 0) D3d := by
  refine FnG.of_vc (fitsT tabT1_ok fun _ => none) Tryz.func25 rfl (by decide) rfl 300 (p := fun (V : List PE → Prop) => let v0 := Node.id n; let v1 := Node.kept zeroN; let v2 := Node.kept n; let v3 := Node.peers n; let v4 := Node.reads n; let v5 := Node.role n; let v6 := Node.commit n; let v7 := Node.lead n; let v8 := Node.round n; let v9 := Node.yes n; let v10 := Kept.snap v2; let v11 := Step.n (tickS n); let v12 := Kept.snap v1; let v13 := Kept.entries v2; let v14 := Step.o (tickS n); let v15 := Node.reads v11; let v16 := Node.kept v11; let v17 := Out.lost v14; let v18 := Node.peers v11; let v19 := Node.elapsed v11; let v20 := Snap.config v10; let v21 := Snap.config v12; let v22 := Node.id v11; let v23 := Node.role v11; let v24 := Node.lead v11; let v25 := Node.round v11; let v26 := Node.yes v11; let v27 := Node.commit v11; let v28 := Out.ready v14; let v29 := List.length v3; let v30 := Out.messages v14; let v31 := Out.records v14; let v32 := Kept.snap v16; let v33 := Kept.vote v16; let v34 := (1000 : Int); let v35 := Kept.term v16; let v36 := (0 : Int); let v37 := Kept.entries v16; let v38 := Snap.data v32; let v39 := Snap.config v32; let v40 := Snap.index v32; let v41 := Snap.term v32; let v42 := Config.voters v39; let v43 := Config.learners v39; let v44 := Out.mk [] [] [] []; let v45 := v5 == (4 : Int); let v46 := v36 != v36; let v47 := IntKind.wrap IntKind.i64 (Node.elapsed n + (1 : Int)); let v48 := Node.mk v0 v5 v2 v6 v7 v36 v9 v3 v8 v4; let v49 := allS (Step.mk v48 v44); let v50 := Step.n v49; let v51 := Step.o v49; let v52 := Node.kept v50; let v53 := Kept.snap v52; let v54 := Snap.config v53; let v55 := if v34 < v47 then v34 else v47; let v56 := Node.mk v0 v5 v2 v6 v7 v55 v9 v3 v8 v4; let v57 := confC v56; let v58 := patI v56; let v59 := runS (Step.mk v56 v44) (2 : Int); let v60 := Step.n v59; let v61 := standS v59; let v62 := Step.o v59; let v63 := Step.n v61; let v64 := Step.o v61; let v65 := enoughB v60; let v66 := Node.kept v63; let v67 := Kept.snap v66; let v68 := Snap.config v67; let v69 := pickB v45 (decide (v55 ≥ (2 : Int))) false; let v70 := askS v59 (Message.mk (1 : Int) v36 v36 (IntKind.wrap IntKind.i64 (Kept.term (Node.kept v60) + (1 : Int))) v36 v36 [] v36 v36 false (Snap.mk v36 v36 (Config.mk [] []) (ByteArray.mk #[])) v36 v36 (ByteArray.mk #[])); let v71 := Step.n v70; let v72 := Step.o v70; let v73 := Node.kept v71; let v74 := Kept.snap v73; let v75 := Snap.config v74; let v76 := pickB v45 true (decide (v55 < v58)); let v77 := pickB v76 true !(hasB (Config.voters v57) v0 && mayC v57); True ∧ (SmallN n ∧ rightC n = true ∧ True) ∧ True ∧ True ∧ (v46 = true → True ∧ Node.id zeroN = v22 ∧ Node.role zeroN = v23 ∧ Kept.term v1 = v35 ∧ Kept.vote v1 = v33 ∧ Snap.index v12 = v40 ∧ Snap.term v12 = v41 ∧ Config.voters v21 = v42 ∧ Config.learners v21 = v43 ∧ Snap.data v12 = v38 ∧ Kept.entries v1 = v37 ∧ Node.commit zeroN = v27 ∧ Node.lead zeroN = v24 ∧ Node.elapsed zeroN = v19 ∧ Node.yes zeroN = v26 ∧ Node.peers zeroN = v18 ∧ Node.round zeroN = v25 ∧ Node.reads zeroN = v15 ∧ Out.records outZ = v31 ∧ Out.messages outZ = v30 ∧ Out.ready outZ = v28 ∧ Out.lost outZ = v17 ∧ v36 = v36 ∧ True) ∧ (v46 = false → True ∧ ((v45 = true → v45 = true) ∧ (v45 = true → v45 = true) ∧ (v45 = true → v45 = true) ∧ (v45 = true → v45 = true) ∧ (v45 = true → v45 = true) ∧ (v45 = true → v45 = true) ∧ True) ∧ True ∧ (v69 = true → True ∧ (SmallN v48 ∧ (0 : Nat) + v29 ≤ (1000000 : Nat) ∧ True) ∧ (SmallN v50 ∧ SmallO v51 ∧ True) ∧ Node.id v50 = v22 ∧ Node.role v50 = v23 ∧ Kept.term v52 = v35 ∧ Kept.vote v52 = v33 ∧ Snap.index v53 = v40 ∧ Snap.term v53 = v41 ∧ Config.voters v54 = v42 ∧ Config.learners v54 = v43 ∧ Snap.data v53 = v38 ∧ Kept.entries v52 = v37 ∧ Node.commit v50 = v27 ∧ Node.lead v50 = v24 ∧ Node.elapsed v50 = v19 ∧ Node.yes v50 = v26 ∧ Node.peers v50 = v18 ∧ Node.round v50 = v25 ∧ Node.reads v50 = v15 ∧ Out.records v51 = v31 ∧ Out.messages v51 = v30 ∧ Out.ready v51 = v28 ∧ Out.lost v51 = v17 ∧ v36 = v36 ∧ True) ∧ (v69 = false → (((!v45) = true → (!v45) = true) ∧ ((!v45) = true → (!v45) = true) ∧ ((!v45) = true → (!v45) = true) ∧ ((!v45) = true → (!v45) = true) ∧ ((!v45) = true → (!v45) = true) ∧ ((!v45) = true → (!v45) = true) ∧ ((!v45) = true → (!v45) = true) ∧ ((!v45) = true → (!v45) = true) ∧ ((!v45) = true → List.length v13 ≤ (17592186044416 : Nat)) ∧ ((!v45) = true → List.length v9 ≤ (17592186044416 : Nat)) ∧ ((!v45) = true → v29 ≤ (17592186044416 : Nat)) ∧ ((!v45) = true → List.length v4 ≤ (17592186044416 : Nat)) ∧ ((!v45) = true → (!v45) = true) ∧ ((!v45) = true → (!v45) = true) ∧ (v45 = false → (!v45) = true) ∧ ((!v76) = true → (!v76) = true) ∧ ((!v76) = true → (!v76) = true) ∧ ((!v76) = true → (!v76) = true) ∧ ((!v76) = true → (!v76) = true) ∧ ((!v76) = true → List.length v13 ≤ (17592186044416 : Nat)) ∧ ((!v76) = true → List.length v9 ≤ (17592186044416 : Nat)) ∧ ((!v76) = true → v29 ≤ (17592186044416 : Nat)) ∧ ((!v76) = true → List.length v4 ≤ (17592186044416 : Nat)) ∧ ((!v76) = true → SmallN v56) ∧ ((!v76) = true → (!v76) = true) ∧ ((!v76) = true → (!v76) = true) ∧ ((!v76) = true → (!v76) = true) ∧ ((!v76) = true → (!v76) = true) ∧ ((!v76) = true → (!v76) = true) ∧ ((!v76) = true → (!v76) = true) ∧ ((!v76) = true → SmallC v57) ∧ ((!v76) = true → (!v76) = true) ∧ (v76 = false → (!v76) = true) ∧ True) ∧ True ∧ (v77 = true → (SmallN v56 ∧ SmallO v44 ∧ True) ∧ v0 = v22 ∧ v5 = v23 ∧ Kept.term v2 = v35 ∧ Kept.vote v2 = v33 ∧ Snap.index v10 = v40 ∧ Snap.term v10 = v41 ∧ Config.voters v20 = v42 ∧ Config.learners v20 = v43 ∧ Snap.data v10 = v38 ∧ v13 = v37 ∧ v6 = v27 ∧ v7 = v24 ∧ v55 = v19 ∧ v9 = v26 ∧ v3 = v18 ∧ v8 = v25 ∧ v4 = v15 ∧ [] = v31 ∧ [] = v30 ∧ [] = v28 ∧ [] = v17 ∧ v36 = v36 ∧ True) ∧ (v77 = false → (SmallN v56 ∧ SmallO v44 ∧ True) ∧ True ∧ (v65 = true → (Few (70000 : Nat) v59 ∧ True) ∧ (SmallN v63 ∧ SmallO v64 ∧ True) ∧ Node.id v63 = v22 ∧ Node.role v63 = v23 ∧ Kept.term v66 = v35 ∧ Kept.vote v66 = v33 ∧ Snap.index v67 = v40 ∧ Snap.term v67 = v41 ∧ Config.voters v68 = v42 ∧ Config.learners v68 = v43 ∧ Snap.data v67 = v38 ∧ Kept.entries v66 = v37 ∧ Node.commit v63 = v27 ∧ Node.lead v63 = v24 ∧ Node.elapsed v63 = v19 ∧ Node.yes v63 = v26 ∧ Node.peers v63 = v18 ∧ Node.round v63 = v25 ∧ Node.reads v63 = v15 ∧ Out.records v64 = v31 ∧ Out.messages v64 = v30 ∧ Out.ready v64 = v28 ∧ Out.lost v64 = v17 ∧ v36 = v36 ∧ True) ∧ (v65 = false → (SmallN v60 ∧ SmallO v62 ∧ List.length (Out.messages v62) ≤ (900000 : Nat) ∧ List.length (Config.voters (confC v60)) ≤ (4000 : Nat) ∧ True) ∧ (SmallN v71 ∧ SmallO v72 ∧ True) ∧ Node.id v71 = v22 ∧ Node.role v71 = v23 ∧ Kept.term v73 = v35 ∧ Kept.vote v73 = v33 ∧ Snap.index v74 = v40 ∧ Snap.term v74 = v41 ∧ Config.voters v75 = v42 ∧ Config.learners v75 = v43 ∧ Snap.data v74 = v38 ∧ Kept.entries v73 = v37 ∧ Node.commit v71 = v27 ∧ Node.lead v71 = v24 ∧ Node.elapsed v71 = v19 ∧ Node.yes v71 = v26 ∧ Node.peers v71 = v18 ∧ Node.round v71 = v25 ∧ Node.reads v71 = v15 ∧ Out.records v72 = v31 ∧ Out.messages v72 = v30 ∧ Out.ready v72 = v28 ∧ Out.lost v72 = v17 ∧ v36 = v36 ∧ True))))) (by kernel_rfl) ?_
  simp only [imp_self, implies_true, true_and, and_true, pickB_f, pickB_t, notF]
  refine ⟨⟨hn, hr⟩, fun h => absurd h (by decide), fun _ => ?_⟩
  have k1 := hf.tick1
  obtain ⟨b1, b2, b3, b4, b5⟩ := hn.ls
  have hp := hf.peers
  refine ⟨fun h => ?_, fun h => ?_⟩
  · have h : n.role = 4 ∧ 2 ≤ elap n := by
      simp only [Bool.and_eq_true, beq_iff_eq, decide_eq_true_eq] at h
      exact h
    have e : tickS n = allS ⟨{ n with elapsed := 0 }, outZ⟩ := by rw [tickS, if_pos h.1, if_pos h.2]
    have k : Few 50000 ⟨{ n with elapsed := 0 }, outZ⟩ := ⟨hf.entries, hf.ec, hf.sc, hf.yes, hf.peers, hf.reads, hf.records, hf.messages, hf.ready, hf.lost⟩
    have k2 := k.all
    rw [e]
    refine ⟨⟨k.sn (by decide), by show 0 + n.peers.length ≤ _; have : n.peers.length ≤ 5000 := hp; omega⟩, ⟨k2.sn (by decide), k2.so (by decide)⟩, ?_⟩
    repeat' apply And.intro
    all_goals rfl
  · have h0 : ¬ (n.role = 4 ∧ 2 ≤ elap n) := by
      simp only [Bool.and_eq_false_iff, beq_eq_false_iff_ne, decide_eq_false_iff_not] at h
      rintro ⟨q1, q2⟩
      exact h.elim (fun h => h q1) (fun h => h q2)
    refine ⟨⟨fun _ => b1, fun _ => b2, fun _ => b3, fun _ => b4, fun _ => b1, fun _ => b2, fun _ => b3, fun _ => b4, fun _ => k1.sn (by decide), fun _ => k1.cf.c⟩, fun h => ?_, fun h => ?_⟩
    · have h : n.role = 4 ∨ elap n < patI n ∨ voterB n = false := by
        simp only [Bool.or_eq_true, beq_iff_eq, decide_eq_true_eq, Bool.not_eq_true', or_assoc] at h
        exact h
      have e : tickS n = tick1 n := by
        rw [tickS]
        by_cases hr : n.role = 4
        · rw [if_pos hr, if_neg fun h2 => h0 ⟨hr, h2⟩]
        · rw [if_neg hr, if_pos (h.resolve_left hr)]
      rw [e]
      refine ⟨⟨k1.sn (by decide), k1.so (by decide)⟩, ?_⟩
      repeat' apply And.intro
      all_goals rfl
    · have h : ¬ n.role = 4 ∧ ¬ (elap n < patI n ∨ voterB n = false) := by
        simp only [Bool.or_eq_false_iff, beq_eq_false_iff_ne, decide_eq_false_iff_not, Bool.not_eq_false', and_assoc] at h
        refine ⟨h.1, fun h2 => h2.elim h.2.1 fun h3 => ?_⟩
        have h4 : voterB n = true := h.2.2
        rw [h3] at h4; cases h4
      have k2 := k1.run 2 (by decide)
      refine ⟨⟨k1.sn (by decide), k1.so (by decide)⟩, fun g => ?_, fun g => ?_⟩
      · have g : enoughB (runS (tick1 n) 2).n = true := g
        have e : tickS n = standS (runS (tick1 n) 2) := by rw [tickS, if_neg h.1, if_neg h.2, if_pos g]
        have k3 := k2.stand
        rw [e]
        refine ⟨k2.mono (by decide), ⟨k3.sn (by decide), k3.so (by decide)⟩, ?_⟩
        repeat' apply And.intro
        all_goals rfl
      · have g : enoughB (runS (tick1 n) 2).n = false := g
        have e : tickS n = askS (runS (tick1 n) 2) (probeM n) := by rw [tickS, if_neg h.1, if_neg h.2, if_neg (by rw [g]; decide)]
        have k3 := Few.ask (probeM n) k2
        rw [e]
        refine ⟨⟨k2.sn (by decide), k2.so (by decide), Nat.le_trans k2.messages (by decide), k2.cf.1⟩, ⟨k3.sn (by decide), k3.so (by decide)⟩, ?_⟩
        repeat' apply And.intro
        all_goals rfl
theorem notF8 (b : Bool) : (b = false → (!b) = true) = True := by cases b <;> simp
theorem pickB_or (a b : Bool) : pickB a true b = (a || b) := by cases a <;> rfl
theorem wadd {x : Int} {k : Nat} (b : Nat) (hx : x = (k : Int)) (h : k + b ≤ 1000000000000000) : IntKind.i64.wrap (x + (b : Int)) = ((k + b : Nat) : Int) := by
 subst hx
 rw [wrapI ⟨by omega, by omega⟩]; omega
def cntE (e : Entry) : Nat := 1 + e.config.voters.length + e.config.learners.length
def cntL : List Entry → Nat
 | [] => 0
 | e :: l => cntE e + cntL l
theorem cntL_app (a b : List Entry) : cntL (a ++ b) = cntL a + cntL b := by
 induction a with
 | nil => simp [cntL]
 | cons x a ih => simp only [List.cons_append, cntL, ih]; omega
theorem cntL_take {l : List Entry} {j : Nat} (h : j < l.length) : cntL (l.take (j + 1)) = cntL (l.take j) + cntE (l.getD j default) := by
 rw [take_snoc (d := (default : Entry)) h, cntL_app]; simp [cntL]
theorem cntL_le (l : List Entry) (j : Nat) : cntL (l.take j) ≤ cntL l := by
 have h := cntL_app (l.take j) (l.drop j)
 rw [List.take_append_drop] at h; omega
def baseL (n : Node) (m : Message) : Nat := n.yes.length + n.peers.length + n.reads.length + n.kept.entries.length + m.entries.length + n.kept.snap.config.voters.length + n.kept.snap.config.learners.length + m.snap.config.voters.length + m.snap.config.learners.length
def largeN (n : Node) (m : Message) : Bool := decide (3000 < baseL n m + cntL n.kept.entries + cntL m.entries)
theorem count_fn18 (e : Entry) : FnC Tryz.prog 50 [dEntry.can e] (.int .i64 (cntE e : Nat)) D2 := by
 refine FnC.g1 dEntry e (fnB Tryz.func50 (by decide) rfl) fun he => ?_
 refine FnG.of_vc (fitsT tab_nil fun _ => none) Tryz.func50 rfl (by decide) rfl 300 (p := fun (V : List PE → Prop) => True ∧ True ∧ IntKind.wrap IntKind.i64 (IntKind.wrap IntKind.i64 ((1 : Int) + (↑(List.length (Config.voters (Entry.config e))) : Int)) + (↑(List.length (Config.learners (Entry.config e))) : Int)) = (↑(cntE e) : Int) ∧ True) (by kernel_rfl) ?_
 simp only [imp_self, implies_true, true_and, and_true, pickB_f, pickB_t]
 have h1 := he.config_voters.1
 have h2 := he.config_learners.1
 simp only [IntKind.wrap_i64, cntE]
 omega
def eCnt : Ent := ent1 50 dEntry fun e => ([], .int .i64 (cntE e : Nat), D2)
theorem eCnt_ok : EntOk Tryz.prog eCnt := ent1_ok (count_fn18 default).1 fun e _ => count_fn18 e
theorem large_fn (n : Node) (m : Message) : FnC Tryz.prog 12 [dNode.can n, dMessage.can m] (.bool (largeN n m)) D2 := by
 refine FnC.g2 dNode dMessage n m (fnB Tryz.func12 (by decide) rfl) fun hn hm => ?_
 refine FnG.of_vc (fitsT (tab_cons eCnt_ok tab_nil) fun _ => none) Tryz.func12 rfl (by decide) rfl 300 (p := fun (V : List PE → Prop) => True ∧ True ∧ True ∧ True ∧ V []) (by kernel_rfl) ?_
 simp only [imp_self, implies_true, true_and, and_true, pickB_f, pickB_t]
 have h1 := hn.yes.1; have h2 := hn.peers.1; have h3 := hn.reads.1; have h4 := hn.kept_entries.1; have h5 := hm.entries.1
 have h6 := hn.kept_snap_config_voters.1; have h7 := hn.kept_snap_config_learners.1; have h8 := hm.snap_config_voters.1; have h9 := hm.snap_config_learners.1
 have hc : ∀ e : Entry, e ∈ n.kept.entries ∨ e ∈ m.entries → cntE e ≤ 35184372088833 := fun e he => by
  have := he.elim (hn.kept_entries.2 e) (hm.entries.2 e)
  have q1 := this.config_voters.1; have q2 := this.config_learners.1
  unfold cntE; omega
 obtain ⟨B, hB⟩ : ∃ B, baseL n m = B := ⟨_, rfl⟩
 have hB2 : B ≤ 200000000000000 := by rw [← hB]; unfold baseL; omega
 refine LoopG.head (fitsT (tab_cons eCnt_ok tab_nil) fun _ => none) 0 (A := Nat) (fun j => j ≤ n.kept.entries.length ∧ (0 < j → B + cntL (n.kept.entries.take (j - 1)) ≤ 3000)) (fun j => [(7, .int .i64 j), (6, .int .i64 ((B + cntL (n.kept.entries.take j) : Nat) : Int))]) (fun _ => []) (fun j => n.kept.entries.length - j) 0 ⟨Nat.zero_le _, fun h => absurd h (by omega)⟩ /-0-/ (p0 := let v0 := Message.entries m; let v1 := Message.snap m; let v2 := Message.logTerm m; let v3 := Node.kept n; let v4 := Kept.term v3; let v5 := Snap.data v1; let v6 := Snap.term v1; let v7 := Snap.index v1; let v8 := Kept.vote v3; let v9 := Kept.entries v3; let v10 := Snap.config v1; let v11 := Kept.snap v3; let v12 := Snap.config v11; let v13 := Config.learners v10; let v14 := Snap.data v11; let v15 := Snap.index v11; let v16 := Config.voters v10; let v17 := Snap.term v11; let v18 := Config.learners v12; let v19 := Config.voters v12; (0 : Int) = (↑(0 : Nat) : Int) ∧ IntKind.wrap IntKind.i64 (IntKind.wrap IntKind.i64 (IntKind.wrap IntKind.i64 (IntKind.wrap IntKind.i64 (IntKind.wrap IntKind.i64 (IntKind.wrap IntKind.i64 (IntKind.wrap IntKind.i64 (IntKind.wrap IntKind.i64 ((↑(List.length (Node.yes n)) : Int) + (↑(List.length (Node.peers n)) : Int)) + (↑(List.length (Node.reads n)) : Int)) + (↑(List.length v9) : Int)) + (↑(List.length v0) : Int)) + (↑(List.length v19) : Int)) + (↑(List.length v18) : Int)) + (↑(List.length v16) : Int)) + (↑(List.length v13) : Int)) = (↑(B + cntL (List.take (0 : Nat) v9)) : Int) ∧ false = false ∧ v4 = v4 ∧ v8 = v8 ∧ v15 = v15 ∧ v17 = v17 ∧ v19 = v19 ∧ v18 = v18 ∧ v14 = v14 ∧ v9 = v9 ∧ Message.kind m = Message.kind m ∧ Message.from_ m = Message.from_ m ∧ Message.to_ m = Message.to_ m ∧ Message.term m = Message.term m ∧ Message.index m = Message.index m ∧ v2 = v2 ∧ v0 = v0 ∧ Message.commit m = Message.commit m ∧ Message.round m = Message.round m ∧ Message.ok m = Message.ok m ∧ v7 = v7 ∧ v6 = v6 ∧ v16 = v16 ∧ v13 = v13 ∧ v5 = v5 ∧ Message.ask m = Message.ask m ∧ Message.seq m = Message.seq m ∧ Message.data m = Message.data m ∧ True) (by kernel_rfl) ?_ 300 (p := fun (x : Nat) (V : List PE → Prop) => let v0 := Kept.entries (Node.kept n); let v1 := (↑x : Int); let v2 := (↑(List.length v0) : Int); let v3 := (↑(B + cntL (List.take x v0)) : Int); let v4 := decide (v1 < v2); let v5 := pickB v4 (decide (v3 ≤ (3000 : Int))) false; ((v4 = true → v4 = true) ∧ (v4 = true → v4 = true) ∧ True) ∧ True ∧ (v5 = true → ((0 : Int) ≤ v1 ∧ v1 < v2 ∧ True) ∧ True ∧ V [PE.a]) ∧ (v5 = false → True ∧ V [PE.b])) (by intro x; kernel_rfl) ?_
 ·refine ⟨rfl, ?_, ?_⟩
  ·have e := wadd m.snap.config.learners.length (wadd m.snap.config.voters.length (wadd n.kept.snap.config.learners.length (wadd n.kept.snap.config.voters.length (wadd m.entries.length (wadd n.kept.entries.length (wadd n.reads.length (wadd n.peers.length (k := n.yes.length) rfl (by omega)) (by omega)) (by omega)) (by omega)) (by omega)) (by omega)) (by omega)) (by omega)
   rw [e, ← hB]
   rfl
  ·repeat' apply And.intro
   all_goals first | trivial | rfl
 rintro j ⟨hj, h0⟩
 have hb0 : B + cntL (n.kept.entries.take j) ≤ 300000000000000 := by
  by_cases hp : 0 < j
  ·have h := cntL_take (l := n.kept.entries) (j := j - 1) (by omega)
   rw [show j - 1 + 1 = j by omega] at h
   have := hc _ (.inl (getD_mem (d := default) (show j - 1 < n.kept.entries.length by omega)))
   have := h0 hp
   omega
  ·obtain rfl : j = 0 := by omega
   simp only [List.take_zero, cntL]; omega
 have ep : pickB (decide ((j : Int) < (n.kept.entries.length : Int))) (decide (((B + cntL (n.kept.entries.take j) : Nat) : Int) ≤ 3000)) false = decide (j < n.kept.entries.length ∧ B + cntL (n.kept.entries.take j) ≤ 3000) := by
  by_cases g1 : j < n.kept.entries.length <;> by_cases g2 : B + cntL (n.kept.entries.take j) ≤ 3000 <;> simp [pickB, g1, g2] <;> omega
 simp only [imp_self, implies_true, true_and, and_true, ep, decide_eq_true_eq, decide_eq_false_iff_not]
 refine ⟨fun h6 => ⟨by omega, ?_⟩, fun h6 => ?_⟩
 ·have hcl := hc _ (.inl (getD_mem (d := default) h6.1))
  refine Back.mk (j + 1) ⟨by omega, fun _ => by rw [Nat.add_sub_cancel]; exact h6.2⟩ (by omega) /-0-/ (p0 := let v0 := Message.entries m; let v1 := Message.snap m; let v2 := Message.logTerm m; let v3 := Node.kept n; let v4 := Kept.term v3; let v5 := Snap.data v1; let v6 := Snap.term v1; let v7 := Snap.index v1; let v8 := Kept.vote v3; let v9 := Kept.entries v3; let v10 := Snap.config v1; let v11 := Kept.snap v3; let v12 := Snap.config v11; let v13 := Config.learners v10; let v14 := Snap.data v11; let v15 := Snap.index v11; let v16 := Config.voters v10; let v17 := Snap.term v11; let v18 := Config.learners v12; let v19 := Config.voters v12; IntKind.wrap IntKind.i64 ((↑j : Int) + (1 : Int)) = (↑(j + (1 : Nat)) : Int) ∧ IntKind.wrap IntKind.i64 ((↑(B + cntL (List.take j v9)) : Int) + (↑(cntE (List.getD v9 j default)) : Int)) = (↑(B + cntL (List.take (j + (1 : Nat)) v9)) : Int) ∧ false = false ∧ v4 = v4 ∧ v8 = v8 ∧ v15 = v15 ∧ v17 = v17 ∧ v19 = v19 ∧ v18 = v18 ∧ v14 = v14 ∧ v9 = v9 ∧ Message.kind m = Message.kind m ∧ Message.from_ m = Message.from_ m ∧ Message.to_ m = Message.to_ m ∧ Message.term m = Message.term m ∧ Message.index m = Message.index m ∧ v2 = v2 ∧ v0 = v0 ∧ Message.commit m = Message.commit m ∧ Message.round m = Message.round m ∧ Message.ok m = Message.ok m ∧ v7 = v7 ∧ v6 = v6 ∧ v16 = v16 ∧ v13 = v13 ∧ v5 = v5 ∧ Message.ask m = Message.ask m ∧ Message.seq m = Message.seq m ∧ Message.data m = Message.data m ∧ True) (by kernel_rfl) ?_
  have e1 := wadd (x := (j : Int)) 1 rfl (by omega)
  have e2 := wadd (x := ((B + cntL (n.kept.entries.take j) : Nat) : Int)) (cntE (n.kept.entries.getD j default)) rfl (by omega)
  have e3 := cntL_take h6.1
  refine ⟨e1, e2.trans (by rw [e3, Nat.add_assoc]), ?_⟩
  repeat' apply And.intro
  all_goals first | trivial | rfl
 obtain ⟨C, hC⟩ : ∃ C, B + cntL (n.kept.entries.take j) = C := ⟨_, rfl⟩
 rw [hC] at h6 hb0
 refine LoopG.head (fitsT (tab_cons eCnt_ok tab_nil) fun _ => none) 1 (A := Nat) (fun i => i ≤ m.entries.length ∧ (0 < i → C + cntL (m.entries.take (i - 1)) ≤ 3000)) (fun i => [(8, .int .i64 i), (6, .int .i64 ((C + cntL (m.entries.take i) : Nat) : Int))]) (fun _ => []) (fun i => m.entries.length - i) 0 ⟨Nat.zero_le _, fun h => absurd h (by omega)⟩ /-0-/ (p0 := let v0 := Message.snap m; let v1 := Message.logTerm m; let v2 := Message.entries m; let v3 := Snap.index v0; let v4 := Snap.data v0; let v5 := Snap.config v0; let v6 := Snap.term v0; let v7 := Config.learners v5; let v8 := Config.voters v5; (0 : Int) = (↑(0 : Nat) : Int) ∧ (↑(B + cntL (List.take j (Kept.entries (Node.kept n)))) : Int) = (↑(C + cntL (List.take (0 : Nat) v2)) : Int) ∧ false = false ∧ Message.kind m = Message.kind m ∧ Message.from_ m = Message.from_ m ∧ Message.to_ m = Message.to_ m ∧ Message.term m = Message.term m ∧ Message.index m = Message.index m ∧ v1 = v1 ∧ v2 = v2 ∧ Message.commit m = Message.commit m ∧ Message.round m = Message.round m ∧ Message.ok m = Message.ok m ∧ v3 = v3 ∧ v6 = v6 ∧ v8 = v8 ∧ v7 = v7 ∧ v4 = v4 ∧ Message.ask m = Message.ask m ∧ Message.seq m = Message.seq m ∧ Message.data m = Message.data m ∧ True) (by kernel_rfl) ?_ 300 (p := fun (x : Nat) (V : List PE → Prop) => let v0 := Message.entries m; let v1 := (↑x : Int); let v2 := (3000 : Int); let v3 := (↑(List.length v0) : Int); let v4 := (↑(C + cntL (List.take x v0)) : Int); let v5 := decide (v1 < v3); let v6 := pickB v5 (decide (v4 ≤ v2)) false; ((v5 = true → v5 = true) ∧ (v5 = true → v5 = true) ∧ True) ∧ True ∧ (v6 = true → ((0 : Int) ≤ v1 ∧ v1 < v3 ∧ True) ∧ True ∧ V [PE.a]) ∧ (v6 = false → True ∧ decide (v4 > v2) = largeN n m ∧ True)) (by intro x; kernel_rfl) ?_
 ·rw [hC]
  simp only [List.take_zero, cntL, Nat.add_zero, true_and, and_true]
  first | done | (repeat' apply And.intro) <;> rfl
 rintro i ⟨hi, h1⟩
 have hb1 : C + cntL (m.entries.take i) ≤ 400000000000000 := by
  by_cases hp : 0 < i
  ·have h := cntL_take (l := m.entries) (j := i - 1) (by omega)
   rw [show i - 1 + 1 = i by omega] at h
   have := hc _ (.inr (getD_mem (d := default) (show i - 1 < m.entries.length by omega)))
   have := h1 hp
   omega
  ·obtain rfl : i = 0 := by omega
   simp only [List.take_zero, cntL]; omega
 have ep2 : pickB (decide ((i : Int) < (m.entries.length : Int))) (decide (((C + cntL (m.entries.take i) : Nat) : Int) ≤ 3000)) false = decide (i < m.entries.length ∧ C + cntL (m.entries.take i) ≤ 3000) := by
  by_cases g1 : i < m.entries.length <;> by_cases g2 : C + cntL (m.entries.take i) ≤ 3000 <;> simp [pickB, g1, g2] <;> omega
 simp only [imp_self, implies_true, true_and, and_true, ep2, decide_eq_true_eq, decide_eq_false_iff_not]
 refine ⟨fun h7 => ⟨by omega, ?_⟩, fun h7 => ?_⟩
 ·have hcl := hc _ (.inr (getD_mem (d := default) h7.1))
  refine Back.mk (i + 1) ⟨by omega, fun _ => by rw [Nat.add_sub_cancel]; exact h7.2⟩ (by omega) /-0-/ (p0 := let v0 := Message.snap m; let v1 := Message.logTerm m; let v2 := Message.entries m; let v3 := Snap.index v0; let v4 := Snap.data v0; let v5 := Snap.config v0; let v6 := Snap.term v0; let v7 := Config.learners v5; let v8 := Config.voters v5; IntKind.wrap IntKind.i64 ((↑i : Int) + (1 : Int)) = (↑(i + (1 : Nat)) : Int) ∧ IntKind.wrap IntKind.i64 ((↑(C + cntL (List.take i v2)) : Int) + (↑(cntE (List.getD v2 i default)) : Int)) = (↑(C + cntL (List.take (i + (1 : Nat)) v2)) : Int) ∧ false = false ∧ Message.kind m = Message.kind m ∧ Message.from_ m = Message.from_ m ∧ Message.to_ m = Message.to_ m ∧ Message.term m = Message.term m ∧ Message.index m = Message.index m ∧ v1 = v1 ∧ v2 = v2 ∧ Message.commit m = Message.commit m ∧ Message.round m = Message.round m ∧ Message.ok m = Message.ok m ∧ v3 = v3 ∧ v6 = v6 ∧ v8 = v8 ∧ v7 = v7 ∧ v4 = v4 ∧ Message.ask m = Message.ask m ∧ Message.seq m = Message.seq m ∧ Message.data m = Message.data m ∧ True) (by kernel_rfl) ?_
  have e1 := wadd (x := (i : Int)) 1 rfl (by omega)
  have e2 := wadd (x := ((C + cntL (m.entries.take i) : Nat) : Int)) (cntE (m.entries.getD i default)) rfl (by omega)
  have e3 := cntL_take h7.1
  refine ⟨e1, e2.trans (by rw [e3, Nat.add_assoc]), ?_⟩
  repeat' apply And.intro
  all_goals first | trivial | rfl
 ·have z1 := cntL_le n.kept.entries j
  have z2 := cntL_le m.entries i
  have z3 : ¬ j < n.kept.entries.length → cntL (n.kept.entries.take j) = cntL n.kept.entries := fun h => by rw [List.take_of_length_le (by omega)]
  have z4 : ¬ i < m.entries.length → cntL (m.entries.take i) = cntL m.entries := fun h => by rw [List.take_of_length_le (by omega)]
  have z5 : i = 0 → cntL (m.entries.take i) = 0 := fun h => by rw [h]; rfl
  rw [largeN, hB]
  rw [Bool.eq_iff_iff]
  simp only [decide_eq_true_eq]
  omega
theorem KInts_fn (a b : List Int) : FnC Tryz.prog 54 [dInts.can a, dInts.can b] (.bool (decide (a = b))) D2 := by
  refine FnC.g2 dInts dInts a b (fnB Tryz.func54 (by decide) rfl) fun ha hb => ?_
  refine FnG.of_vc (fitsT tab_nil fun _ => none) Tryz.func54 rfl (by decide) rfl 300 (p := fun (V : List PE → Prop) => let v0 := (↑(List.length a) : Int) != (↑(List.length b) : Int); True ∧ True ∧ True ∧ (v0 = true → True ∧ false = decide (a = b) ∧ True) ∧ (v0 = false → True ∧ V [PE.b])) (by kernel_rfl) ?_
  simp only [true_and, and_true, imp_self]
  refine ⟨fun h => ?_, fun h => ?_⟩
  · have : a ≠ b := fun e => by subst e; simp at h
    simp [this]
  have hab : a.length = b.length := by simp at h; omega
  refine LoopG.head (fitsT tab_nil fun _ => none) 0 (A := Nat) (fun j => j ≤ a.length ∧ ∀ i, i < j → a.getD i 0 = b.getD i 0) (fun j => [(5, .int .i64 j)]) (fun j => []) (fun j => a.length - j) 0 ⟨Nat.zero_le _, fun i h => absurd h (by omega)⟩ /-0-/ (p0 := (0 : Int) = (↑(0 : Nat) : Int) ∧ a = a ∧ b = b ∧ True) (by kernel_rfl) ?_ 300 (p := fun (x : Nat) (V : List PE → Prop) => let v0 := (↑x : Int); let v1 := (↑(List.length a) : Int); let v2 := List.getD a x (0 : Int) != List.getD b x (0 : Int); let v3 := decide (v0 < v1); True ∧ True ∧ (v3 = true → ((0 : Int) ≤ v0 ∧ v0 < v1 ∧ (0 : Int) ≤ v0 ∧ v0 < (↑(List.length b) : Int) ∧ True) ∧ True ∧ (v2 = true → True ∧ false = decide (a = b) ∧ True) ∧ (v2 = false → True ∧ V [PE.a, PE.b])) ∧ (v3 = false → True ∧ true = decide (a = b) ∧ True)) (by intro x; kernel_rfl) ?_
  · simp
  · rintro j ⟨hj, h0⟩
    have hkl := ha.1
    simp only [imp_self, implies_true, true_and, and_true, decide_eq_true_eq, decide_eq_false_iff_not]
    refine ⟨fun h6 => ⟨by omega, fun h7 => ?_, fun h7 => ?_⟩, fun h6 => ?_⟩
    · have : a ≠ b := fun e => by subst e; simp at h7
      simp [this]
    · refine Back.mk (j + 1) ⟨by omega, fun i hi => ?_⟩ (by omega) /-0-/ (p0 := IntKind.wrap IntKind.i64 ((↑j : Int) + (1 : Int)) = (↑(j + (1 : Nat)) : Int) ∧ a = a ∧ b = b ∧ True) (by kernel_rfl) ?_
      · by_cases hij : i = j
        · subst hij; simpa using h7
        · exact h0 i (by omega)
      · simp [wrapN (i := j) (by omega)]
    · have : a = b := ext_getD hab fun i hi => h0 i (by omega)
      simp [this]
def eKInts : Ent := ent2 54 dInts dInts fun a b => ([], .bool (decide (a = b)), D2)
theorem eKInts_ok : EntOk Tryz.prog eKInts := ent2_ok (KInts_fn [] []).1 fun a b _ => KInts_fn a b
theorem Message.eq_iff {a b : Message} : a = b ↔ a.kind = b.kind ∧ a.from_ = b.from_ ∧ a.to_ = b.to_ ∧ a.term = b.term ∧ a.index = b.index ∧ a.logTerm = b.logTerm ∧ a.entries = b.entries ∧ a.commit = b.commit ∧ a.round = b.round ∧ a.ok = b.ok ∧ a.snap = b.snap ∧ a.ask = b.ask ∧ a.seq = b.seq ∧ a.data = b.data := by cases a; cases b; simp
def eRRows : Ent := ent2 97 dEntrys dEntrys fun a b => ([], .bool (decide (a = b)), D2)
theorem eRRows_ok : EntOk Tryz.prog eRRows := ent2_ok (rrows_fn [] []).1 fun a b _ => rrows_fn a b
def eRRecords : Ent := ent2 147 dRecords dRecords fun a b => ([], .bool (decide (a = b)), D2)
theorem eRRecords_ok : EntOk Tryz.prog eRRecords := ent2_ok (rrecords_fn [] []).1 fun a b _ => rrecords_fn a b
def eRSame : Ent := ent2 23 dKept dKept fun a b => ([], .bool (decide (a = b)), D2)
theorem eRSame_ok : EntOk Tryz.prog eRSame := ent2_ok (rsame_fn default default).1 fun a b _ => rsame_fn a b
theorem KMsg_fn (a b : Message) : FnC Tryz.prog 32 [dMessage.can a, dMessage.can b] (.bool (decide (a = b))) D2 := by
 refine FnC.g2 dMessage dMessage a b (fnB Tryz.func32 (by decide) rfl) fun ha hb => ?_
 refine FnG.of_vc (fitsT (tab_cons eRRows_ok (tab_cons eRSnaps_ok tab_nil)) fun _ => none) Tryz.func32 rfl (by decide) rfl 300 (p := fun (V : List PE → Prop) => let v0 := Message.entries b; let v1 := Message.entries a; let v2 := Message.kind a != Message.kind b; let v3 := decide (v1 = v0); let v4 := pickB v2 true (Message.from_ a != Message.from_ b); let v5 := pickB v4 true (Message.to_ a != Message.to_ b); let v6 := pickB v5 true (Message.term a != Message.term b); let v7 := pickB v6 true (Message.index a != Message.index b); let v8 := pickB v7 true (Message.logTerm a != Message.logTerm b); let v9 := pickB v8 true (Message.commit a != Message.commit b); let v10 := pickB v9 true (Message.round a != Message.round b); let v11 := pickB v10 true !Message.ok a == Message.ok b; let v12 := pickB v11 true (Message.ask a != Message.ask b); let v13 := pickB v12 true (Message.seq a != Message.seq b); let v14 := pickB v13 true !ByteArray.toList (Message.data a) == ByteArray.toList (Message.data b); True ∧ (((!v2) = true → (!v2) = true) ∧ ((!v2) = true → (!v2) = true) ∧ ((!v2) = true → (!v2) = true) ∧ ((!v2) = true → (!v2) = true) ∧ (v2 = false → (!v2) = true) ∧ ((!v4) = true → (!v4) = true) ∧ ((!v4) = true → (!v4) = true) ∧ ((!v4) = true → (!v4) = true) ∧ ((!v4) = true → (!v4) = true) ∧ (v4 = false → (!v4) = true) ∧ ((!v5) = true → (!v5) = true) ∧ ((!v5) = true → (!v5) = true) ∧ ((!v5) = true → (!v5) = true) ∧ ((!v5) = true → (!v5) = true) ∧ (v5 = false → (!v5) = true) ∧ ((!v6) = true → (!v6) = true) ∧ ((!v6) = true → (!v6) = true) ∧ ((!v6) = true → (!v6) = true) ∧ ((!v6) = true → (!v6) = true) ∧ (v6 = false → (!v6) = true) ∧ ((!v7) = true → (!v7) = true) ∧ ((!v7) = true → (!v7) = true) ∧ ((!v7) = true → (!v7) = true) ∧ ((!v7) = true → (!v7) = true) ∧ (v7 = false → (!v7) = true) ∧ ((!v8) = true → (!v8) = true) ∧ ((!v8) = true → (!v8) = true) ∧ ((!v8) = true → (!v8) = true) ∧ ((!v8) = true → (!v8) = true) ∧ (v8 = false → (!v8) = true) ∧ ((!v9) = true → (!v9) = true) ∧ ((!v9) = true → (!v9) = true) ∧ ((!v9) = true → (!v9) = true) ∧ ((!v9) = true → (!v9) = true) ∧ (v9 = false → (!v9) = true) ∧ ((!v10) = true → (!v10) = true) ∧ ((!v10) = true → (!v10) = true) ∧ ((!v10) = true → (!v10) = true) ∧ ((!v10) = true → (!v10) = true) ∧ (v10 = false → (!v10) = true) ∧ ((!v11) = true → (!v11) = true) ∧ ((!v11) = true → (!v11) = true) ∧ ((!v11) = true → (!v11) = true) ∧ ((!v11) = true → (!v11) = true) ∧ (v11 = false → (!v11) = true) ∧ ((!v12) = true → (!v12) = true) ∧ ((!v12) = true → (!v12) = true) ∧ ((!v12) = true → (!v12) = true) ∧ ((!v12) = true → (!v12) = true) ∧ (v12 = false → (!v12) = true) ∧ ((!v13) = true → (!v13) = true) ∧ ((!v13) = true → (!v13) = true) ∧ ((!v13) = true → (!v13) = true) ∧ ((!v13) = true → (!v13) = true) ∧ (v13 = false → (!v13) = true) ∧ True) ∧ True ∧ (v14 = true → True ∧ false = decide (a = b) ∧ True) ∧ (v14 = false → ((v3 = true → v3 = true) ∧ (v3 = true → v3 = true) ∧ (v3 = true → v3 = true) ∧ (v3 = true → v3 = true) ∧ (v3 = true → v3 = true) ∧ True) ∧ pickB v3 (decide (Message.snap a = Message.snap b)) false = decide (a = b) ∧ True)) (by kernel_rfl) ?_
 simp only [imp_self, implies_true, true_and, and_true, pickB_f, pickB_t, bytes_eq, notF8, pickB_or]
 refine ⟨fun h => ?_, fun h => ?_⟩
 ·have : a ≠ b := fun e => by subst e; simp at h
  simp [this]
 ·simp only [Bool.or_eq_false_iff, bne_eq_false_iff_eq, Bool.not_eq_false', decide_eq_true_eq] at h
  have h9 : a.ok = b.ok := by have := h.1.1.1.2; simpa using this
  rw [Bool.eq_iff_iff]
  simp [Message.eq_iff, h, h9, and_assoc, and_comm, and_left_comm]
def eKMsg : Ent := ent2 32 dMessage dMessage fun a b => ([], .bool (decide (a = b)), D2)
theorem eKMsg_ok : EntOk Tryz.prog eKMsg := ent2_ok (KMsg_fn default default).1 fun a b _ => KMsg_fn a b
theorem LMsgs_fn (a b : List Message) : FnC Tryz.prog 148 [dMessages.can a, dMessages.can b] (.bool (decide (a = b))) D2 := by
  refine FnC.g2 dMessages dMessages a b (fnB Tryz.func148 (by decide) rfl) fun ha hb => ?_
  refine FnG.of_vc (fitsT (tab_cons eKMsg_ok tab_nil) fun _ => none) Tryz.func148 rfl (by decide) rfl 300 (p := fun (V : List PE → Prop) => let v0 := (↑(List.length a) : Int) != (↑(List.length b) : Int); True ∧ True ∧ True ∧ (v0 = true → True ∧ false = decide (a = b) ∧ True) ∧ (v0 = false → True ∧ V [PE.b])) (by kernel_rfl) ?_
  simp only [true_and, and_true, imp_self]
  refine ⟨fun h => ?_, fun h => ?_⟩
  · have : a ≠ b := fun e => by subst e; simp at h
    simp [this]
  have hab : a.length = b.length := by simp at h; omega
  refine LoopG.head (fitsT (tab_cons eKMsg_ok tab_nil) fun _ => none) 0 (A := Nat) (fun j => j ≤ a.length ∧ ∀ i, i < j → a.getD i default = b.getD i default) (fun j => [(5, .int .i64 j)]) (fun j => []) (fun j => a.length - j) 0 ⟨Nat.zero_le _, fun i h => absurd h (by omega)⟩ /-0-/ (p0 := (0 : Int) = (↑(0 : Nat) : Int) ∧ a = a ∧ b = b ∧ True) (by kernel_rfl) ?_ 300 (p := fun (x : Nat) (V : List PE → Prop) => let v0 := (↑x : Int); let v1 := (↑(List.length a) : Int); let v2 := List.getD b x default; let v3 := List.getD a x default; let v4 := decide (v0 < v1); let v5 := !decide (v3 = v2); True ∧ True ∧ (v4 = true → ((0 : Int) ≤ v0 ∧ v0 < v1 ∧ (0 : Int) ≤ v0 ∧ v0 < (↑(List.length b) : Int) ∧ True) ∧ True ∧ (v5 = true → True ∧ false = decide (a = b) ∧ True) ∧ (v5 = false → True ∧ V [PE.a, PE.b])) ∧ (v4 = false → True ∧ true = decide (a = b) ∧ True)) (by intro x; kernel_rfl) ?_
  · simp
  · rintro j ⟨hj, h0⟩
    have hkl := ha.1
    simp only [imp_self, implies_true, true_and, and_true, decide_eq_true_eq, decide_eq_false_iff_not]
    refine ⟨fun h6 => ⟨by omega, fun h7 => ?_, fun h7 => ?_⟩, fun h6 => ?_⟩
    · have : a ≠ b := fun e => by subst e; simp at h7
      simp [this]
    · refine Back.mk (j + 1) ⟨by omega, fun i hi => ?_⟩ (by omega) /-0-/ (p0 := IntKind.wrap IntKind.i64 ((↑j : Int) + (1 : Int)) = (↑(j + (1 : Nat)) : Int) ∧ a = a ∧ b = b ∧ True) (by kernel_rfl) ?_
      · by_cases hij : i = j
        · subst hij; simpa using h7
        · exact h0 i (by omega)
      · simp [wrapN (i := j) (by omega)]
    · have : a = b := ext_getD hab fun i hi => h0 i (by omega)
      simp [this]
def eLMsgs : Ent := ent2 148 dMessages dMessages fun a b => ([], .bool (decide (a = b)), D2)
theorem eLMsgs_ok : EntOk Tryz.prog eLMsgs := ent2_ok (LMsgs_fn [] []).1 fun a b _ => LMsgs_fn a b
theorem eqRd (p q : Read) : eqI [.int .i64 p.token, .int .i64 p.index, .int .i64 p.round] [.int .i64 q.token, .int .i64 q.index, .int .i64 q.round] = decide (p = q) := by
 obtain ⟨a1, a2, a3⟩ := p
 obtain ⟨b1, b2, b3⟩ := q
 simp only [eqI, Read.mk.injEq]
 by_cases h1 : a1 = b1 <;> by_cases h2 : a2 = b2 <;> by_cases h3 : a3 = b3 <;> simp [h1, h2, h3]
theorem eqPr (p q : Peer) : eqI [.int .i64 p.node, .int .i64 p.next, .int .i64 p.match_, .int .i64 p.round] [.int .i64 q.node, .int .i64 q.next, .int .i64 q.match_, .int .i64 q.round] = decide (p = q) := by
 obtain ⟨a1, a2, a3, a4⟩ := p
 obtain ⟨b1, b2, b3, b4⟩ := q
 simp only [eqI, Peer.mk.injEq]
 by_cases h1 : a1 = b1 <;> by_cases h2 : a2 = b2 <;> by_cases h3 : a3 = b3 <;> by_cases h4 : a4 = b4 <;> simp [h1, h2, h3, h4]
theorem Out.eq_iff {a b : Out} : a = b ↔ a.records = b.records ∧ a.messages = b.messages ∧ a.ready = b.ready ∧ a.lost = b.lost := by cases a; cases b; simp
def tabDa : List Ent := [eKInts, eRRecords, eLMsgs]
theorem tabDa_ok : ∀ e ∈ tabDa, EntOk Tryz.prog e := tab_cons eKInts_ok (tab_cons eRRecords_ok (tab_cons eLMsgs_ok tab_nil))
theorem LOuts_fn (a b : Out) : FnC Tryz.prog 85 [dOut.can a, dOut.can b] (.bool (decide (a = b))) D2 := by
 refine FnC.g2 dOut dOut a b (fnB Tryz.func85 (by decide) rfl) fun ha hb => ?_
 refine FnG.of_vc (fitsT tabDa_ok fun _ => none) Tryz.func85 rfl (by decide) rfl 300 (p := fun (V : List PE → Prop) => let v0 := (↑(List.length (Out.ready a)) : Int) != (↑(List.length (Out.ready b)) : Int); let v1 := pickB v0 true !decide (Out.lost a = Out.lost b); let v2 := pickB v1 true !decide (Out.records a = Out.records b); let v3 := pickB v2 true !decide (Out.messages a = Out.messages b); True ∧ (((!v0) = true → (!v0) = true) ∧ ((!v0) = true → (!v0) = true) ∧ ((!v0) = true → (!v0) = true) ∧ ((!v0) = true → (!v0) = true) ∧ ((!v0) = true → (!v0) = true) ∧ (v0 = false → (!v0) = true) ∧ ((!v1) = true → (!v1) = true) ∧ ((!v1) = true → (!v1) = true) ∧ ((!v1) = true → (!v1) = true) ∧ ((!v1) = true → (!v1) = true) ∧ ((!v1) = true → (!v1) = true) ∧ (v1 = false → (!v1) = true) ∧ ((!v2) = true → (!v2) = true) ∧ ((!v2) = true → (!v2) = true) ∧ ((!v2) = true → (!v2) = true) ∧ ((!v2) = true → (!v2) = true) ∧ ((!v2) = true → (!v2) = true) ∧ (v2 = false → (!v2) = true) ∧ True) ∧ True ∧ (v3 = true → True ∧ false = decide (a = b) ∧ True) ∧ (v3 = false → True ∧ V [PE.b])) (by kernel_rfl) ?_
 simp only [true_and, and_true, imp_self, implies_true, notF8, pickB_or]
 refine ⟨fun h => ?_, fun h => ?_⟩
 ·have : a ≠ b := fun e => by subst e; simp at h
  simp [this]
 simp only [Bool.or_eq_false_iff, bne_eq_false_iff_eq, Bool.not_eq_false', decide_eq_true_eq] at h
 obtain ⟨⟨⟨e1, e2⟩, e3⟩, e4⟩ := h
 have hab : a.ready.length = b.ready.length := by omega
 refine LoopG.head (fitsT tabDa_ok fun _ => none) 0 (A := Nat) (fun j => j ≤ a.ready.length ∧ ∀ i, i < j → a.ready.getD i default = b.ready.getD i default) (fun j => [(5, .int .i64 j)]) (fun j => []) (fun j => a.ready.length - j) 0 ⟨Nat.zero_le _, fun i h => absurd h (by omega)⟩ /-0-/ (p0 := (0 : Int) = (↑(0 : Nat) : Int) ∧ Out.records b = Out.records b ∧ Out.messages b = Out.messages b ∧ Out.ready b = Out.ready b ∧ Out.lost b = Out.lost b ∧ Out.records a = Out.records a ∧ Out.messages a = Out.messages a ∧ Out.ready a = Out.ready a ∧ Out.lost a = Out.lost a ∧ True) (by kernel_rfl) ?_ 300 (p := fun (x : Nat) (V : List PE → Prop) => let v0 := Tables.types (Program.toTables Tryz.prog); let v1 := (↑x : Int); let v2 := (↑(List.length (Out.ready a)) : Int); let v3 := decide (v1 < v2); let v4 := TypeInfo.size v0[(96 : Nat)]; let v5 := !eqI (List.take v4 (List.drop (0 : Nat) (RL.elem [(0 : Nat)] (RL.rRead (Out.ready a)) x))) (List.take v4 (List.drop (0 : Nat) (RL.elem [(0 : Nat)] (RL.rRead (Out.ready b)) x))); True ∧ True ∧ (v3 = true → ((0 : Int) ≤ v1 ∧ v1 < v2 ∧ (0 : Int) ≤ v1 ∧ v1 < (↑(List.length (Out.ready b)) : Int) ∧ True) ∧ True ∧ (v5 = true → True ∧ false = decide (a = b) ∧ True) ∧ (v5 = false → True ∧ V [PE.a, PE.b])) ∧ (v3 = false → True ∧ true = decide (a = b) ∧ True)) (by intro x; kernel_rfl) ?_
 ·simp
 rintro j ⟨hj, h0⟩
 have hkl := ha.ready.1
 simp only [imp_self, implies_true, true_and, and_true, decide_eq_true_eq, decide_eq_false_iff_not]
 have hsz : TypeInfo.size ((Tables.types (Program.toTables Tryz.prog))[96]'(Nat.le_of_ble_eq_true (by kernel_rfl))) = 3 := by kernel_rfl
 have eq : eqI (List.take 3 (List.drop 0 (RL.elem [0] (RL.rRead a.ready) j))) (List.take 3 (List.drop 0 (RL.elem [0] (RL.rRead b.ready) j))) = decide (a.ready.getD j default = b.ready.getD j default) := eqRd _ _
 rw [hsz, eq]
 simp only [imp_self, implies_true, true_and, and_true, Bool.not_eq_true', Bool.not_eq_false', decide_eq_true_eq, decide_eq_false_iff_not]
 refine ⟨fun h6 => ⟨by omega, fun h7 => ?_, fun h7 => ?_⟩, fun h6 => ?_⟩
 ·have : a ≠ b := fun e => by subst e; simp at h7
  simp [this]
 ·refine Back.mk (j + 1) ⟨by omega, fun i hi => ?_⟩ (by omega) /-0-/ (p0 := IntKind.wrap IntKind.i64 ((↑j : Int) + (1 : Int)) = (↑(j + (1 : Nat)) : Int) ∧ Out.records b = Out.records b ∧ Out.messages b = Out.messages b ∧ Out.ready b = Out.ready b ∧ Out.lost b = Out.lost b ∧ Out.records a = Out.records a ∧ Out.messages a = Out.messages a ∧ Out.ready a = Out.ready a ∧ Out.lost a = Out.lost a ∧ True) (by kernel_rfl) ?_
  ·by_cases hij : i = j
   ·subst hij; simpa using h7
   ·exact h0 i (by omega)
  ·simp [wrapN (i := j) (by omega)]
 ·have : a = b := Out.eq_iff.2 ⟨e3, e4, ext_getD hab fun i hi => h0 i (by omega), e2⟩
  simp [this]
def eLOuts : Ent := ent2 85 dOut dOut fun a b => ([], .bool (decide (a = b)), D2)
theorem eLOuts_ok : EntOk Tryz.prog eLOuts := ent2_ok (LOuts_fn default default).1 fun a b _ => LOuts_fn a b
theorem Node.eq_iff {a b : Node} : a = b ↔ a.id = b.id ∧ a.role = b.role ∧ a.kept = b.kept ∧ a.commit = b.commit ∧ a.lead = b.lead ∧ a.elapsed = b.elapsed ∧ a.yes = b.yes ∧ a.peers = b.peers ∧ a.round = b.round ∧ a.reads = b.reads := by cases a; cases b; simp
def tabDb : List Ent := [eKInts, eRSame]
theorem tabDb_ok : ∀ e ∈ tabDb, EntOk Tryz.prog e := tab_cons eKInts_ok (tab_cons eRSame_ok tab_nil)
theorem KNodes_fn (a b : Node) : FnC Tryz.prog 16 [dNode.can a, dNode.can b] (.bool (decide (a = b))) D2 := by
 refine FnC.g2 dNode dNode a b (fnB Tryz.func16 (by decide) rfl) fun ha hb => ?_
 refine FnG.of_vc (fitsT tabDb_ok fun _ => none) Tryz.func16 rfl (by decide) rfl 300 (p := fun (V : List PE → Prop) => let v0 := Node.id a != Node.id b; let v1 := pickB v0 true (Node.role a != Node.role b); let v2 := pickB v1 true (Node.commit a != Node.commit b); let v3 := pickB v2 true (Node.lead a != Node.lead b); let v4 := pickB v3 true (Node.elapsed a != Node.elapsed b); let v5 := pickB v4 true (Node.round a != Node.round b); let v6 := pickB v5 true !decide (Node.yes a = Node.yes b); let v7 := pickB v6 true ((↑(List.length (Node.peers a)) : Int) != (↑(List.length (Node.peers b)) : Int)); let v8 := pickB v7 true ((↑(List.length (Node.reads a)) : Int) != (↑(List.length (Node.reads b)) : Int)); let v9 := pickB v8 true !decide (Node.kept a = Node.kept b); True ∧ (((!v0) = true → (!v0) = true) ∧ ((!v0) = true → (!v0) = true) ∧ ((!v0) = true → (!v0) = true) ∧ ((!v0) = true → (!v0) = true) ∧ (v0 = false → (!v0) = true) ∧ ((!v1) = true → (!v1) = true) ∧ ((!v1) = true → (!v1) = true) ∧ ((!v1) = true → (!v1) = true) ∧ ((!v1) = true → (!v1) = true) ∧ (v1 = false → (!v1) = true) ∧ ((!v2) = true → (!v2) = true) ∧ ((!v2) = true → (!v2) = true) ∧ ((!v2) = true → (!v2) = true) ∧ ((!v2) = true → (!v2) = true) ∧ (v2 = false → (!v2) = true) ∧ ((!v3) = true → (!v3) = true) ∧ ((!v3) = true → (!v3) = true) ∧ ((!v3) = true → (!v3) = true) ∧ ((!v3) = true → (!v3) = true) ∧ (v3 = false → (!v3) = true) ∧ ((!v4) = true → (!v4) = true) ∧ ((!v4) = true → (!v4) = true) ∧ ((!v4) = true → (!v4) = true) ∧ ((!v4) = true → (!v4) = true) ∧ (v4 = false → (!v4) = true) ∧ ((!v5) = true → (!v5) = true) ∧ ((!v5) = true → (!v5) = true) ∧ ((!v5) = true → (!v5) = true) ∧ ((!v5) = true → (!v5) = true) ∧ ((!v5) = true → (!v5) = true) ∧ (v5 = false → (!v5) = true) ∧ ((!v6) = true → (!v6) = true) ∧ ((!v6) = true → (!v6) = true) ∧ ((!v6) = true → (!v6) = true) ∧ ((!v6) = true → (!v6) = true) ∧ ((!v6) = true → (!v6) = true) ∧ ((!v6) = true → (!v6) = true) ∧ (v6 = false → (!v6) = true) ∧ ((!v7) = true → (!v7) = true) ∧ ((!v7) = true → (!v7) = true) ∧ ((!v7) = true → (!v7) = true) ∧ ((!v7) = true → (!v7) = true) ∧ ((!v7) = true → (!v7) = true) ∧ ((!v7) = true → (!v7) = true) ∧ (v7 = false → (!v7) = true) ∧ ((!v8) = true → (!v8) = true) ∧ ((!v8) = true → (!v8) = true) ∧ ((!v8) = true → (!v8) = true) ∧ ((!v8) = true → (!v8) = true) ∧ ((!v8) = true → (!v8) = true) ∧ (v8 = false → (!v8) = true) ∧ True) ∧ True ∧ (v9 = true → True ∧ false = decide (a = b) ∧ True) ∧ (v9 = false → True ∧ V [PE.b])) (by kernel_rfl) ?_
 simp only [true_and, and_true, imp_self, implies_true, notF8, pickB_or]
 refine ⟨fun h => ?_, fun h => ?_⟩
 ·have : a ≠ b := fun e => by subst e; simp at h
  simp [this]
 simp only [Bool.or_eq_false_iff, bne_eq_false_iff_eq, Bool.not_eq_false', decide_eq_true_eq] at h
 obtain ⟨⟨⟨⟨⟨⟨⟨⟨⟨e1, e2⟩, e3⟩, e4⟩, e5⟩, e6⟩, e7⟩, e8⟩, e9⟩, e10⟩ := h
 have hab : a.peers.length = b.peers.length := by omega
 have hac : a.reads.length = b.reads.length := by omega
 refine LoopG.head (fitsT tabDb_ok fun _ => none) 0 (A := Nat) (fun j => j ≤ a.peers.length ∧ ∀ i, i < j → a.peers.getD i default = b.peers.getD i default) (fun j => [(5, .int .i64 j)]) (fun j => []) (fun j => a.peers.length - j) 0 ⟨Nat.zero_le _, fun i h => absurd h (by omega)⟩ /-0-/ (p0 := let v0 := Node.kept a; let v1 := Node.kept b; let v2 := Kept.entries v0; let v3 := Kept.vote v0; let v4 := Kept.term v0; let v5 := Kept.snap v1; let v6 := Kept.vote v1; let v7 := Kept.entries v1; let v8 := Kept.snap v0; let v9 := Kept.term v1; let v10 := Snap.data v8; let v11 := Snap.term v5; let v12 := Snap.index v5; let v13 := Snap.term v8; let v14 := Snap.config v5; let v15 := Snap.index v8; let v16 := Snap.config v8; let v17 := Snap.data v5; let v18 := Config.learners v14; let v19 := Config.voters v16; let v20 := Config.learners v16; let v21 := Config.voters v14; (0 : Int) = (↑(0 : Nat) : Int) ∧ Node.id b = Node.id b ∧ Node.role b = Node.role b ∧ v9 = v9 ∧ v6 = v6 ∧ v12 = v12 ∧ v11 = v11 ∧ v21 = v21 ∧ v18 = v18 ∧ v17 = v17 ∧ v7 = v7 ∧ Node.commit b = Node.commit b ∧ Node.lead b = Node.lead b ∧ Node.elapsed b = Node.elapsed b ∧ Node.yes b = Node.yes b ∧ Node.peers b = Node.peers b ∧ Node.round b = Node.round b ∧ Node.reads b = Node.reads b ∧ Node.id a = Node.id a ∧ Node.role a = Node.role a ∧ v4 = v4 ∧ v3 = v3 ∧ v15 = v15 ∧ v13 = v13 ∧ v19 = v19 ∧ v20 = v20 ∧ v10 = v10 ∧ v2 = v2 ∧ Node.commit a = Node.commit a ∧ Node.lead a = Node.lead a ∧ Node.elapsed a = Node.elapsed a ∧ Node.yes a = Node.yes a ∧ Node.peers a = Node.peers a ∧ Node.round a = Node.round a ∧ Node.reads a = Node.reads a ∧ True) (by kernel_rfl) ?_ 300 (p := fun (x : Nat) (V : List PE → Prop) => let v0 := Tables.types (Program.toTables Tryz.prog); let v1 := (↑x : Int); let v2 := (↑(List.length (Node.peers a)) : Int); let v3 := decide (v1 < v2); let v4 := TypeInfo.size v0[(94 : Nat)]; let v5 := !eqI (List.take v4 (List.drop (0 : Nat) (RL.elem [(0 : Nat)] (RL.rPeer (Node.peers a)) x))) (List.take v4 (List.drop (0 : Nat) (RL.elem [(0 : Nat)] (RL.rPeer (Node.peers b)) x))); True ∧ True ∧ (v3 = true → ((0 : Int) ≤ v1 ∧ v1 < v2 ∧ (0 : Int) ≤ v1 ∧ v1 < (↑(List.length (Node.peers b)) : Int) ∧ True) ∧ True ∧ (v5 = true → True ∧ false = decide (a = b) ∧ True) ∧ (v5 = false → True ∧ V [PE.a, PE.b])) ∧ (v3 = false → True ∧ V [PE.b])) (by intro x; kernel_rfl) ?_
 ·simp
 rintro j ⟨hj, h0⟩
 have hkl := ha.peers.1
 have hkr := ha.reads.1
 simp only [imp_self, implies_true, true_and, and_true, decide_eq_true_eq, decide_eq_false_iff_not]
 have hsz : TypeInfo.size ((Tables.types (Program.toTables Tryz.prog))[94]'(Nat.le_of_ble_eq_true (by kernel_rfl))) = 4 := by kernel_rfl
 have eq : eqI (List.take 4 (List.drop 0 (RL.elem [0] (RL.rPeer a.peers) j))) (List.take 4 (List.drop 0 (RL.elem [0] (RL.rPeer b.peers) j))) = decide (a.peers.getD j default = b.peers.getD j default) := eqPr _ _
 rw [hsz, eq]
 simp only [imp_self, implies_true, true_and, and_true, Bool.not_eq_true', Bool.not_eq_false', decide_eq_true_eq, decide_eq_false_iff_not]
 refine ⟨fun h6 => ⟨by omega, fun h7 => ?_, fun h7 => ?_⟩, fun h6 => ?_⟩
 ·have : a ≠ b := fun e => by subst e; simp at h7
  simp [this]
 ·refine Back.mk (j + 1) ⟨by omega, fun i hi => ?_⟩ (by omega) /-0-/ (p0 := let v0 := Node.kept a; let v1 := Node.kept b; let v2 := Kept.entries v0; let v3 := Kept.vote v0; let v4 := Kept.term v0; let v5 := Kept.snap v1; let v6 := Kept.vote v1; let v7 := Kept.entries v1; let v8 := Kept.snap v0; let v9 := Kept.term v1; let v10 := Snap.data v8; let v11 := Snap.term v5; let v12 := Snap.index v5; let v13 := Snap.term v8; let v14 := Snap.config v5; let v15 := Snap.index v8; let v16 := Snap.config v8; let v17 := Snap.data v5; let v18 := Config.learners v14; let v19 := Config.voters v16; let v20 := Config.learners v16; let v21 := Config.voters v14; IntKind.wrap IntKind.i64 ((↑j : Int) + (1 : Int)) = (↑(j + (1 : Nat)) : Int) ∧ Node.id b = Node.id b ∧ Node.role b = Node.role b ∧ v9 = v9 ∧ v6 = v6 ∧ v12 = v12 ∧ v11 = v11 ∧ v21 = v21 ∧ v18 = v18 ∧ v17 = v17 ∧ v7 = v7 ∧ Node.commit b = Node.commit b ∧ Node.lead b = Node.lead b ∧ Node.elapsed b = Node.elapsed b ∧ Node.yes b = Node.yes b ∧ Node.peers b = Node.peers b ∧ Node.round b = Node.round b ∧ Node.reads b = Node.reads b ∧ Node.id a = Node.id a ∧ Node.role a = Node.role a ∧ v4 = v4 ∧ v3 = v3 ∧ v15 = v15 ∧ v13 = v13 ∧ v19 = v19 ∧ v20 = v20 ∧ v10 = v10 ∧ v2 = v2 ∧ Node.commit a = Node.commit a ∧ Node.lead a = Node.lead a ∧ Node.elapsed a = Node.elapsed a ∧ Node.yes a = Node.yes a ∧ Node.peers a = Node.peers a ∧ Node.round a = Node.round a ∧ Node.reads a = Node.reads a ∧ True) (by kernel_rfl) ?_
  ·by_cases hij : i = j
   ·subst hij; simpa using h7
   ·exact h0 i (by omega)
  ·simp [wrapN (i := j) (by omega)]
 have hpe : a.peers = b.peers := ext_getD hab fun i hi => h0 i (by omega)
 refine LoopG.head (fitsT tabDb_ok fun _ => none) 1 (A := Nat) (fun j => j ≤ a.reads.length ∧ ∀ i, i < j → a.reads.getD i default = b.reads.getD i default) (fun j => [(6, .int .i64 j)]) (fun j => []) (fun j => a.reads.length - j) 0 ⟨Nat.zero_le _, fun i h => absurd h (by omega)⟩ /-0-/ (p0 := let v0 := Node.kept a; let v1 := Node.kept b; let v2 := Kept.entries v0; let v3 := Kept.vote v0; let v4 := Kept.term v0; let v5 := Kept.snap v1; let v6 := Kept.vote v1; let v7 := Kept.entries v1; let v8 := Kept.snap v0; let v9 := Kept.term v1; let v10 := Snap.data v8; let v11 := Snap.term v5; let v12 := Snap.index v5; let v13 := Snap.term v8; let v14 := Snap.config v5; let v15 := Snap.index v8; let v16 := Snap.config v8; let v17 := Snap.data v5; let v18 := Config.learners v14; let v19 := Config.voters v16; let v20 := Config.learners v16; let v21 := Config.voters v14; (0 : Int) = (↑(0 : Nat) : Int) ∧ Node.id b = Node.id b ∧ Node.role b = Node.role b ∧ v9 = v9 ∧ v6 = v6 ∧ v12 = v12 ∧ v11 = v11 ∧ v21 = v21 ∧ v18 = v18 ∧ v17 = v17 ∧ v7 = v7 ∧ Node.commit b = Node.commit b ∧ Node.lead b = Node.lead b ∧ Node.elapsed b = Node.elapsed b ∧ Node.yes b = Node.yes b ∧ Node.peers b = Node.peers b ∧ Node.round b = Node.round b ∧ Node.reads b = Node.reads b ∧ Node.id a = Node.id a ∧ Node.role a = Node.role a ∧ v4 = v4 ∧ v3 = v3 ∧ v15 = v15 ∧ v13 = v13 ∧ v19 = v19 ∧ v20 = v20 ∧ v10 = v10 ∧ v2 = v2 ∧ Node.commit a = Node.commit a ∧ Node.lead a = Node.lead a ∧ Node.elapsed a = Node.elapsed a ∧ Node.yes a = Node.yes a ∧ Node.peers a = Node.peers a ∧ Node.round a = Node.round a ∧ Node.reads a = Node.reads a ∧ True) (by kernel_rfl) ?_ 300 (p := fun (x : Nat) (V : List PE → Prop) => let v0 := Tables.types (Program.toTables Tryz.prog); let v1 := (↑x : Int); let v2 := (↑(List.length (Node.reads a)) : Int); let v3 := decide (v1 < v2); let v4 := TypeInfo.size v0[(96 : Nat)]; let v5 := !eqI (List.take v4 (List.drop (0 : Nat) (RL.elem [(0 : Nat)] (RL.rRead (Node.reads a)) x))) (List.take v4 (List.drop (0 : Nat) (RL.elem [(0 : Nat)] (RL.rRead (Node.reads b)) x))); True ∧ True ∧ (v3 = true → ((0 : Int) ≤ v1 ∧ v1 < v2 ∧ (0 : Int) ≤ v1 ∧ v1 < (↑(List.length (Node.reads b)) : Int) ∧ True) ∧ True ∧ (v5 = true → True ∧ false = decide (a = b) ∧ True) ∧ (v5 = false → True ∧ V [PE.a, PE.b])) ∧ (v3 = false → True ∧ true = decide (a = b) ∧ True)) (by intro x; kernel_rfl) ?_
 ·simp
 clear eq h0 hj h6
 rintro j ⟨hj, h0⟩
 simp only [imp_self, implies_true, true_and, and_true, decide_eq_true_eq, decide_eq_false_iff_not]
 have hsz2 : TypeInfo.size ((Tables.types (Program.toTables Tryz.prog))[96]'(Nat.le_of_ble_eq_true (by kernel_rfl))) = 3 := by kernel_rfl
 have eq2 : eqI (List.take 3 (List.drop 0 (RL.elem [0] (RL.rRead a.reads) j))) (List.take 3 (List.drop 0 (RL.elem [0] (RL.rRead b.reads) j))) = decide (a.reads.getD j default = b.reads.getD j default) := eqRd _ _
 rw [hsz2, eq2]
 simp only [imp_self, implies_true, true_and, and_true, Bool.not_eq_true', Bool.not_eq_false', decide_eq_true_eq, decide_eq_false_iff_not]
 refine ⟨fun h6 => ⟨by omega, fun h7 => ?_, fun h7 => ?_⟩, fun h6 => ?_⟩
 ·have : a ≠ b := fun e => by subst e; simp at h7
  simp [this]
 ·refine Back.mk (j + 1) ⟨by omega, fun i hi => ?_⟩ (by omega) /-0-/ (p0 := let v0 := Node.kept a; let v1 := Node.kept b; let v2 := Kept.entries v0; let v3 := Kept.vote v0; let v4 := Kept.term v0; let v5 := Kept.snap v1; let v6 := Kept.vote v1; let v7 := Kept.entries v1; let v8 := Kept.snap v0; let v9 := Kept.term v1; let v10 := Snap.data v8; let v11 := Snap.term v5; let v12 := Snap.index v5; let v13 := Snap.term v8; let v14 := Snap.config v5; let v15 := Snap.index v8; let v16 := Snap.config v8; let v17 := Snap.data v5; let v18 := Config.learners v14; let v19 := Config.voters v16; let v20 := Config.learners v16; let v21 := Config.voters v14; IntKind.wrap IntKind.i64 ((↑j : Int) + (1 : Int)) = (↑(j + (1 : Nat)) : Int) ∧ Node.id b = Node.id b ∧ Node.role b = Node.role b ∧ v9 = v9 ∧ v6 = v6 ∧ v12 = v12 ∧ v11 = v11 ∧ v21 = v21 ∧ v18 = v18 ∧ v17 = v17 ∧ v7 = v7 ∧ Node.commit b = Node.commit b ∧ Node.lead b = Node.lead b ∧ Node.elapsed b = Node.elapsed b ∧ Node.yes b = Node.yes b ∧ Node.peers b = Node.peers b ∧ Node.round b = Node.round b ∧ Node.reads b = Node.reads b ∧ Node.id a = Node.id a ∧ Node.role a = Node.role a ∧ v4 = v4 ∧ v3 = v3 ∧ v15 = v15 ∧ v13 = v13 ∧ v19 = v19 ∧ v20 = v20 ∧ v10 = v10 ∧ v2 = v2 ∧ Node.commit a = Node.commit a ∧ Node.lead a = Node.lead a ∧ Node.elapsed a = Node.elapsed a ∧ Node.yes a = Node.yes a ∧ Node.peers a = Node.peers a ∧ Node.round a = Node.round a ∧ Node.reads a = Node.reads a ∧ True) (by kernel_rfl) ?_
  ·by_cases hij : i = j
   ·subst hij; simpa using h7
   ·exact h0 i (by omega)
  ·simp [wrapN (i := j) (by omega)]
 ·have : a = b := Node.eq_iff.2 ⟨e1, e2, e10, e3, e4, e5, e7, hpe, e6, ext_getD hac fun i hi => h0 i (by omega)⟩
  simp [this]
def eKNodes : Ent := ent2 16 dNode dNode fun a b => ([], .bool (decide (a = b)), D2)
theorem eKNodes_ok : EntOk Tryz.prog eKNodes := ent2_ok (KNodes_fn default default).1 fun a b _ => KNodes_fn a b
def tickC (n : Node) : Step × Int := if rightC n then (tickS n, 0) else (⟨zeroN, outZ⟩, 1)
theorem tick_fn (n : Node) (hf : Few 50000 (stepZ n)) : FnC Tryz.prog 25 [dNode.can n] (refO (tickC n).1.n (tickC n).1.o (tickC n).2) D3d := by
 unfold tickC
 cases hr : rightC n
 ·exact tickN_fn n (hf.sn (by decide)) hr
 ·exact tickY_fn n (hf.sn (by decide)) hr hf
def eTick : Ent := ent1 25 dNode fun n => ([Few 50000 (stepZ n)], refO (tickC n).1.n (tickC n).1.o (tickC n).2, D3d)
theorem eTick_ok : EntOk Tryz.prog eTick := ent1_ok (fnB Tryz.func25 (by decide) rfl) fun n h => tick_fn n (h _ (by simp))
def eNew : Ent := ent2 14 dInt dKept fun id k => ([SmallK k], .tup [.agg ((newC id k).1.svs [1]), .int .i64 (newC id k).2], D2)
theorem eNew_ok : EntOk Tryz.prog eNew := ent2_ok (fnB Tryz.func14 (by decide) rfl) fun id k h => new_fn id k (h _ (by simp))
def startK : Kept := ⟨1, 0, ⟨1, 1, ⟨[1, 2, 3], []⟩, zs⟩, []⟩
def startN : Node := newN 1 startK
theorem start_new : newC 1 startK = (startN, 0) := by
 have h : rightC (newN 1 startK) = true := by kernel_rfl
 rw [newC, h]; rfl
theorem start_fn : FnC Tryz.prog 68 [] (.tup [.agg (startN.svs [1]), .int .i64 0]) D2 := by
 refine FnG.of_vc (fitsT (tab_cons eNew_ok tab_nil) fun _ => none) Tryz.func68 rfl (by decide) rfl 300 (p := fun (V : List PE → Prop) => let v0 := Node.kept startN; let v1 := Kept.snap v0; let v2 := Snap.config v1; let v3 := (1 : Int); let v4 := [v3] ++ [(2 : Int)] ++ [(3 : Int)]; let v5 := Kept.mk v3 (0 : Int) (Snap.mk v3 v3 (Config.mk v4 []) (ByteArray.mk #[])) []; let v6 := newC v3 v5; let v7 := Prod.fst v6; let v8 := Node.kept v7; let v9 := Kept.snap v8; let v10 := Snap.config v9; True ∧ (List.length v4 ≤ (17592186044416 : Nat) ∧ SmallK v5 ∧ True) ∧ Node.id v7 = Node.id startN ∧ Node.role v7 = Node.role startN ∧ Kept.term v8 = Kept.term v0 ∧ Kept.vote v8 = Kept.vote v0 ∧ Snap.index v9 = Snap.index v1 ∧ Snap.term v9 = Snap.term v1 ∧ Config.voters v10 = Config.voters v2 ∧ Config.learners v10 = Config.learners v2 ∧ Snap.data v9 = Snap.data v1 ∧ Kept.entries v8 = Kept.entries v0 ∧ Node.commit v7 = Node.commit startN ∧ Node.lead v7 = Node.lead startN ∧ Node.elapsed v7 = Node.elapsed startN ∧ Node.yes v7 = Node.yes startN ∧ Node.peers v7 = Node.peers startN ∧ Node.round v7 = Node.round startN ∧ Node.reads v7 = Node.reads startN ∧ Prod.snd v6 = (0 : Int) ∧ True) (by kernel_rfl) ?_
 simp only [imp_self, implies_true, true_and, and_true, pickB_f, pickB_t]
 have e := start_new
 simp only [startK, zs] at e
 simp only [List.cons_append, List.nil_append, e, and_true]
 exact ⟨by decide, ⟨⟨by decide, fun x hx => by cases hx⟩, ⟨by decide, by decide⟩⟩⟩
def eStart : Ent := ent0 68 ([], .tup [.agg (startN.svs [1]), .int .i64 0], D2)
theorem eStart_ok : EntOk Tryz.prog eStart := ent0_ok (fnB Tryz.func68 (by decide) rfl) fun _ => start_fn
def ePatP : Ent := ent1 21 dNode fun n => ([SmallN n], .int .i64 (if rightC n then patI n else 0), D2)
theorem ePatP_ok : EntOk Tryz.prog ePatP := ent1_ok (fnB Tryz.func21 (by decide) rfl) fun n h => patienceP_fn n (h _ (by simp))
def tickIt : Nat → Step
 | 0 => ⟨startN, outZ⟩
 | n + 1 => tickS (tickIt n).n
theorem tickIt_right : ∀ j, j < 10 → rightC (tickIt j).n = true := by
 have h : (List.range 10).all (fun j => rightC (tickIt j).n) = true := by kernel_rfl
 exact fun j hj => List.all_eq_true.1 h j (List.mem_range.2 hj)
def fewB (s : Step) : Bool :=
 decide (s.n.kept.entries.length ≤ 50) && s.n.kept.entries.all (fun e => decide (e.config.voters.length ≤ 50) && decide (e.config.learners.length ≤ 50)) && decide (s.n.kept.snap.config.voters.length ≤ 50) && decide (s.n.kept.snap.config.learners.length ≤ 50) &&
 decide (s.n.yes.length ≤ 50) && decide (s.n.peers.length ≤ 50) && decide (s.n.reads.length ≤ 50) && decide (s.o.records.length ≤ 50) && decide (s.o.messages.length ≤ 50) && decide (s.o.ready.length ≤ 50) && decide (s.o.lost.length ≤ 50)
theorem fewB_ok {s : Step} (h : fewB s = true) : Few 50000 s := by
 unfold fewB at h
 simp only [Bool.and_eq_true, decide_eq_true_eq, List.all_eq_true] at h
 obtain ⟨⟨⟨⟨⟨⟨⟨⟨⟨⟨h1, h2⟩, h3⟩, h4⟩, h5⟩, h6⟩, h7⟩, h8⟩, h9⟩, h10⟩, h11⟩ := h
 exact ⟨by omega, fun e he => by have := h2 e he; exact ⟨by omega, by omega⟩, ⟨by omega, by omega⟩, by omega, by omega, by omega, by omega, by omega, by omega, by omega⟩
theorem Few.z {B : Nat} {s : Step} (h : Few B s) : Few B (stepZ s.n) := ⟨h.entries, h.ec, h.sc, h.yes, h.peers, h.reads, Nat.zero_le _, Nat.zero_le _, Nat.zero_le _, Nat.zero_le _⟩
theorem tickIt_few : ∀ j, j < 11 → Few 50000 (tickIt j) := by
 have h : (List.range 11).all (fun j => fewB (tickIt j)) = true := by kernel_rfl
 exact fun j hj => fewB_ok (List.all_eq_true.1 h j (List.mem_range.2 hj))
noncomputable def tabWt : List Ent := [eStart, ePatP, eTick]
theorem tabWt_ok : ∀ e ∈ tabWt, EntOk Tryz.prog e := tab_cons eStart_ok (tab_cons ePatP_ok (tab_cons eTick_ok tab_nil))
theorem waits_fn : FnC Tryz.prog 20 [] (.bool true) D2 := by
 refine FnG.of_vc (fitsT tabWt_ok fun _ => none) Tryz.func20 rfl (by decide) rfl 300 (p := fun (V : List PE → Prop) => let v0 := (0 : Int) != (0 : Int); let v1 := pickB v0 true ((if rightC startN = true then patI startN else (0 : Int)) != (10 : Int)); True ∧ True ∧ (((!v0) = true → (!v0) = true) ∧ ((!v0) = true → SmallN startN) ∧ ((!v0) = true → (!v0) = true) ∧ (v0 = false → (!v0) = true) ∧ True) ∧ True ∧ (v1 = true → True ∧ false = true ∧ True) ∧ (v1 = false → True ∧ True ∧ V [PE.b])) (by kernel_rfl) ?_
 simp only [imp_self, implies_true, true_and, and_true, pickB_f, pickB_t]
 have hr : rightC startN = true := tickIt_right 0 (by decide)
 have hp : patI startN = 10 := by kernel_rfl
 refine ⟨⟨fun _ => (tickIt_few 0 (by decide)).sn (by decide), fun _ => by decide⟩, fun h => ?_, fun _ => ?_⟩
 ·rw [hr, if_pos rfl, hp] at h; exact absurd h (by decide)
 refine LoopG.head (fitsT tabWt_ok fun _ => none) 0 (A := Nat) (fun j => j ≤ 10) (fun j => [(4, .int .i64 j), (2, .int .i64 0)]) (fun j => [(30, .cells 35 ((tickIt j).n.svs [900])), (63, .cells 49 ((tickIt j).o.svs [901])), (900, .dead), (901, .dead)]) (fun j => 10 - j) 0 (Nat.zero_le _) /-0-/ (p0 := let v0 := Node.kept startN; let v1 := Kept.snap v0; let v2 := Snap.config v1; let v3 := Step.o (tickIt (0 : Nat)); let v4 := Step.n (tickIt (0 : Nat)); let v5 := Node.kept v4; let v6 := Kept.snap v5; let v7 := Snap.config v6; (0 : Int) = (↑(0 : Nat) : Int) ∧ (0 : Int) = (0 : Int) ∧ Node.id startN = Node.id v4 ∧ Node.role startN = Node.role v4 ∧ Kept.term v0 = Kept.term v5 ∧ Kept.vote v0 = Kept.vote v5 ∧ Snap.index v1 = Snap.index v6 ∧ Snap.term v1 = Snap.term v6 ∧ Config.voters v2 = Config.voters v7 ∧ Config.learners v2 = Config.learners v7 ∧ Snap.data v1 = Snap.data v6 ∧ Kept.entries v0 = Kept.entries v5 ∧ Node.commit startN = Node.commit v4 ∧ Node.lead startN = Node.lead v4 ∧ Node.elapsed startN = Node.elapsed v4 ∧ Node.yes startN = Node.yes v4 ∧ Node.peers startN = Node.peers v4 ∧ Node.round startN = Node.round v4 ∧ Node.reads startN = Node.reads v4 ∧ Out.records v3 = [] ∧ Out.messages v3 = [] ∧ Out.ready v3 = [] ∧ Out.lost v3 = [] ∧ True) (by kernel_rfl) ?_ 300 (p := fun (x : Nat) (V : List PE → Prop) => let v0 := Step.n (tickIt x); let v1 := Out.messages (Step.o (tickIt x)); let v2 := (1 : Int); let v3 := (0 : Int); let v4 := (↑(List.length v1) : Int); let v5 := Node.role v0 == (2 : Int); let v6 := List.getD v1 (Int.toNat v3) default; let v7 := Prod.snd (tickC v0) != v3; let v8 := decide ((↑x : Int) < (10 : Int)); let v9 := pickB v5 (v4 == (2 : Int)) false; let v10 := pickB v9 (Message.kind v6 == v2) false; let v11 := pickB v10 (Message.term v6 == (2 : Int)) false; True ∧ True ∧ (v8 = true → (Few (50000 : Nat) (stepZ v0) ∧ True) ∧ True ∧ True ∧ (v7 = true → True ∧ false = true ∧ True) ∧ (v7 = false → True ∧ V [PE.a, PE.b])) ∧ (v8 = false → ((v5 = true → v5 = true) ∧ (v5 = true → v5 = true) ∧ (v5 = true → v5 = true) ∧ (v5 = true → v5 = true) ∧ (v9 = true → v9 = true) ∧ (v9 = true → v9 = true) ∧ (v9 = true → v3 ≤ v3) ∧ (v9 = true → v3 < v4) ∧ (v9 = true → v9 = true) ∧ (v9 = true → v9 = true) ∧ (v9 = true → v9 = true) ∧ (v9 = true → v9 = true) ∧ (v10 = true → v10 = true) ∧ (v10 = true → v10 = true) ∧ (v10 = true → v3 ≤ v3) ∧ (v10 = true → v3 < v4) ∧ (v10 = true → v10 = true) ∧ (v10 = true → v10 = true) ∧ (v10 = true → v10 = true) ∧ (v10 = true → v10 = true) ∧ (v11 = true → v11 = true) ∧ (v11 = true → v11 = true) ∧ (v11 = true → v3 ≤ v2) ∧ (v11 = true → v2 < v4) ∧ (v11 = true → v11 = true) ∧ (v11 = true → v11 = true) ∧ (v11 = true → v11 = true) ∧ (v11 = true → v11 = true) ∧ True) ∧ pickB v11 (Message.to_ (List.getD v1 (Int.toNat v2) default) == (3 : Int)) false = true ∧ True)) (by intro x; kernel_rfl) ?_
 ·repeat' apply And.intro
  all_goals first | trivial | rfl
 rintro j hj
 simp only [imp_self, implies_true, true_and, and_true, decide_eq_true_eq, decide_eq_false_iff_not]
 refine ⟨fun h => ?_, fun h => ?_⟩
 ·have hj2 : j < 10 := by omega
  have ht : tickC (tickIt j).n = (tickIt (j + 1), 0) := by rw [tickC, if_pos (tickIt_right j hj2)]; rfl
  refine ⟨(tickIt_few j (by omega)).z, fun h => ?_, fun _ => ?_⟩
  ·rw [ht] at h; exact absurd (show ((0 : Int) != 0) = true from h) (by decide)
  ·refine Back.mk (j + 1) (by omega) (by omega) /-0-/ (p0 := let v0 := tickC (Step.n (tickIt j)); let v1 := Prod.fst v0; let v2 := Step.n v1; let v3 := Step.o v1; let v4 := Node.kept v2; let v5 := Kept.snap v4; let v6 := Snap.config v5; let v7 := tickIt (j + (1 : Nat)); let v8 := Step.o v7; let v9 := Step.n v7; let v10 := Node.kept v9; let v11 := Kept.snap v10; let v12 := Snap.config v11; IntKind.wrap IntKind.i64 ((↑j : Int) + (1 : Int)) = (↑(j + (1 : Nat)) : Int) ∧ Prod.snd v0 = (0 : Int) ∧ Node.id v2 = Node.id v9 ∧ Node.role v2 = Node.role v9 ∧ Kept.term v4 = Kept.term v10 ∧ Kept.vote v4 = Kept.vote v10 ∧ Snap.index v5 = Snap.index v11 ∧ Snap.term v5 = Snap.term v11 ∧ Config.voters v6 = Config.voters v12 ∧ Config.learners v6 = Config.learners v12 ∧ Snap.data v5 = Snap.data v11 ∧ Kept.entries v4 = Kept.entries v10 ∧ Node.commit v2 = Node.commit v9 ∧ Node.lead v2 = Node.lead v9 ∧ Node.elapsed v2 = Node.elapsed v9 ∧ Node.yes v2 = Node.yes v9 ∧ Node.peers v2 = Node.peers v9 ∧ Node.round v2 = Node.round v9 ∧ Node.reads v2 = Node.reads v9 ∧ Out.records v3 = Out.records v8 ∧ Out.messages v3 = Out.messages v8 ∧ Out.ready v3 = Out.ready v8 ∧ Out.lost v3 = Out.lost v8 ∧ True) (by kernel_rfl) ?_
   simp only [true_and, and_true]
   rw [ht]
   simp only [wrapN (i := j) (by omega), true_and, and_true]
   first | done | omega | rfl
 ·obtain rfl : j = 10 := by omega
  have hl : (tickIt 10).o.messages.length = 2 := by kernel_rfl
  have h0 : (0 : Int) < ((tickIt 10).o.messages.length : Int) := by rw [hl]; decide
  have h1 : (1 : Int) < ((tickIt 10).o.messages.length : Int) := by rw [hl]; decide
  refine ⟨⟨fun _ => by decide, fun _ => h0, fun _ => by decide, fun _ => h0, fun _ => by decide, fun _ => h1⟩, ?_⟩
  kernel_rfl
def rofMo (n : Node) : List BE := [.dead, .dead, .cells 125 (n.rsvs [1] 3 4 5 ++ [.nil, .nil, .nil, .nil]), .row 3 [] (.rInts n.yes), .row 94 [] (.rPeer n.peers), .row 96 [] (.rRead n.reads)]
noncomputable def tabRd4 : List Ent := [eRRight, eROwnN]
theorem tabRd4_ok : ∀ e ∈ tabRd4, EntOk Tryz.prog e := tab_cons eRRight_ok (tab_cons eROwnN_ok tab_nil)
theorem ofN_fn (n : Node) (hn : SmallN n) (hr : rightC n = false) : FnC Tryz.prog 82 [dNode.can n] (.tup [.any, .int .i64 1]) D2 := by
 refine FnG.of_vc (fitsT tabRd4_ok fun _ => none) Tryz.func82 rfl (by decide) rfl 300 (p := fun (V : List PE → Prop) => True ∧ (SmallN n ∧ True) ∧ True ∧ ((!rightC n) = true → True ∧ (1 : Int) = (1 : Int) ∧ True) ∧ ((!rightC n) = false → (SmallN n ∧ True) ∧ (0 : Int) = (1 : Int) ∧ True)) (by kernel_rfl) ?_
 simp only [imp_self, implies_true, true_and, and_true, pickB_f, pickB_t]
 refine ⟨hn, fun h => ?_⟩
 rw [hr] at h; exact absurd h (by decide)
theorem ofY_fn (n : Node) (hn : SmallN n) (hr : rightC n = true) : FnC Tryz.prog 82 [dNode.can n] (.tup [.ptr 2 0, .int .i64 0]) (rofMo n) := by
 refine FnG.of_vc (fitsT tabRd4_ok fun _ => none) Tryz.func82 rfl (by decide) rfl 300 (p := fun (V : List PE → Prop) => let v0 := Node.kept n; let v1 := Kept.term v0; let v2 := Kept.snap v0; let v3 := Kept.entries v0; let v4 := Kept.vote v0; let v5 := Snap.config v2; let v6 := Snap.data v2; let v7 := Snap.index v2; let v8 := Snap.term v2; let v9 := Config.learners v5; let v10 := Config.voters v5; True ∧ (SmallN n ∧ True) ∧ True ∧ ((!rightC n) = true → True ∧ False) ∧ ((!rightC n) = false → (SmallN n ∧ True) ∧ (0 : Int) = (0 : Int) ∧ Node.id n = Node.id n ∧ Node.role n = Node.role n ∧ v1 = v1 ∧ v4 = v4 ∧ v7 = v7 ∧ v8 = v8 ∧ v10 = v10 ∧ v9 = v9 ∧ v6 = v6 ∧ v3 = v3 ∧ Node.commit n = Node.commit n ∧ Node.lead n = Node.lead n ∧ Node.elapsed n = Node.elapsed n ∧ Node.round n = Node.round n ∧ Node.yes n = Node.yes n ∧ Node.peers n = Node.peers n ∧ Node.reads n = Node.reads n ∧ True)) (by kernel_rfl) ?_
 simp only [imp_self, implies_true, true_and, and_true, pickB_f, pickB_t]
 refine ⟨hn, fun h => ?_, fun h => hn⟩
 rw [hr] at h; exact absurd h (by decide)
def eROfN : Ent := ent1 82 dNode fun n => ([SmallN n, rightC n = false], .tup [.any, .int .i64 1], D2)
theorem eROfN_ok : EntOk Tryz.prog eROfN := ent1_ok (fnB Tryz.func82 (by decide) rfl) fun n h => ofN_fn n (h _ (by simp)) (h _ (by simp))
def eROfY : Ent := ent1 82 dNode fun n => ([SmallN n, rightC n = true], .tup [.ptr 2 0, .int .i64 0], rofMo n)
theorem eROfY_ok : EntOk Tryz.prog eROfY := ent1_ok (fnB Tryz.func82 (by decide) rfl) fun n h => ofY_fn n (h _ (by simp)) (h _ (by simp))
theorem rno_fn (e : Int) : FnC Tryz.prog 83 [dInt.can e] (refO zeroN outZ e) D3d := by
 refine FnG.of_vc (fitsT tab_nil fun _ => none) Tryz.func83 rfl (by decide) rfl 300 (p := fun (V : List PE → Prop) => let v0 := Node.kept zeroN; let v1 := Kept.snap v0; let v2 := Snap.config v1; let v3 := (0 : Int); True ∧ True ∧ v3 = Node.id zeroN ∧ v3 = Node.role zeroN ∧ v3 = Kept.term v0 ∧ v3 = Kept.vote v0 ∧ v3 = Snap.index v1 ∧ v3 = Snap.term v1 ∧ Config.voters v2 = [] ∧ Config.learners v2 = [] ∧ ByteArray.mk #[] = Snap.data v1 ∧ Kept.entries v0 = [] ∧ v3 = Node.commit zeroN ∧ v3 = Node.lead zeroN ∧ v3 = Node.elapsed zeroN ∧ Node.yes zeroN = [] ∧ Node.peers zeroN = [] ∧ v3 = Node.round zeroN ∧ Node.reads zeroN = [] ∧ Out.records outZ = [] ∧ Out.messages outZ = [] ∧ Out.ready outZ = [] ∧ Out.lost outZ = [] ∧ e = e ∧ True) (by kernel_rfl) ?_
 simp only [imp_self, implies_true, true_and, and_true, pickB_f, pickB_t]
 repeat' apply And.intro
 all_goals rfl
def eRNo : Ent := ent1 83 dInt fun e => ([], refO zeroN outZ e, D3d)
theorem eRNo_ok : EntOk Tryz.prog eRNo := ent1_ok (rno_fn 0).1 fun n h => rno_fn n
noncomputable def tabRt : List Ent := [eRAll18, eRPat, eRConfN, eRVoter, eREnough, eRStand, eRVoters]
theorem tabRt_ok : ∀ e ∈ tabRt, EntOk Tryz.prog e := tab_cons eRAll18_ok (tab_cons eRPat_ok (tab_cons eRConfN_ok (tab_cons eRVoter_ok (tab_cons eREnough_ok (tab_cons eRStand_ok (tab_cons eRVoters_ok tab_nil))))))
def elapS (s : Step) : Step := ⟨{ s.n with elapsed := elap s.n }, s.o⟩
def tickT (s : Step) : Step :=
 if s.n.role = 4 then (if 2 ≤ elap s.n then allS ⟨{ s.n with elapsed := 0 }, s.o⟩ else elapS s)
 else if elap s.n < patI s.n ∨ voterB s.n = false then elapS s
 else if enoughB (runS (elapS s) 2).n then standS (runS (elapS s) 2) else askS (runS (elapS s) 2) (probeM s.n)
theorem Few.elap {B : Nat} {s : Step} (h : Few B s) : Few B (elapS s) := ⟨h.entries, h.ec, h.sc, h.yes, h.peers, h.reads, h.records, h.messages, h.ready, h.lost⟩
theorem rtick_fn (s : Step) (hf : Few 50000 s) (hg : LogG s.n.kept) (ht : TermG s.n.kept) : FnG Tryz.prog 84 3 (sMi 125 s) [.ptr 2 0] (.tup []) (sMo 125 (tickT s)) := by
  refine FnG.of_vc (fitsT tabRt_ok fun _ => none) Tryz.func84 rfl (by decide) rfl 300 (p := fun (V : List PE → Prop) => let v0 := Step.n s; let v1 := Step.o s; let v2 := Node.id v0; let v3 := Node.round v0; let v4 := Out.messages v1; let v5 := Node.peers v0; let v6 := Node.role v0; let v7 := Out.lost v1; let v8 := Node.reads v0; let v9 := Node.yes v0; let v10 := Step.n (tickT s); let v11 := Out.records v1; let v12 := Node.kept v0; let v13 := Out.ready v1; let v14 := Node.commit v0; let v15 := Step.o (tickT s); let v16 := Node.lead v0; let v17 := Out.ready v15; let v18 := Node.peers v10; let v19 := Node.elapsed v10; let v20 := Out.lost v15; let v21 := Kept.snap v12; let v22 := Out.records v15; let v23 := Node.round v10; let v24 := Node.commit v10; let v25 := Node.yes v10; let v26 := Node.id v10; let v27 := Out.messages v15; let v28 := Node.kept v10; let v29 := Node.role v10; let v30 := Kept.term v12; let v31 := Node.lead v10; let v32 := Node.reads v10; let v33 := Kept.entries v28; let v34 := (0 : Int); let v35 := Kept.term v28; let v36 := (1000 : Int); let v37 := List.length v4; let v38 := Kept.vote v28; let v39 := Kept.snap v28; let v40 := List.length v5; let v41 := Snap.config v21; let v42 := Snap.term v39; let v43 := Snap.config v39; let v44 := Snap.index v39; let v45 := Snap.data v39; let v46 := [v2]; let v47 := Config.learners v43; let v48 := Config.voters v43; let v49 := v6 == (4 : Int); let v50 := IntKind.wrap IntKind.i64 (Node.elapsed v0 + (1 : Int)); let v51 := Node.mk v2 v6 v12 v14 v16 v34 v9 v5 v3 v8; let v52 := allS (Step.mk v51 v1); let v53 := Step.o v52; let v54 := Step.n v52; let v55 := Node.kept v54; let v56 := Kept.snap v55; let v57 := Node.mk v2 (2 : Int) v12 v14 v34 v34 v46 v5 v3 v8; let v58 := Snap.config v56; let v59 := enoughB v57; let v60 := Step.mk v57 v1; let v61 := standS v60; let v62 := Step.n v61; let v63 := Step.o v61; let v64 := Node.kept v62; let v65 := Kept.snap v64; let v66 := Snap.config v65; let v67 := if v36 < v50 then v36 else v50; let v68 := Node.mk v2 v6 v12 v14 v16 v67 v9 v5 v3 v8; let v69 := patI v68; let v70 := confC v68; let v71 := askS v60 (Message.mk (1 : Int) v34 v34 (IntKind.wrap IntKind.i64 (v30 + (1 : Int))) v34 v34 [] v34 v34 false (Snap.mk v34 v34 (Config.mk [] []) (ByteArray.mk #[])) v34 v34 (ByteArray.mk #[])); let v72 := Step.n v71; let v73 := Step.o v71; let v74 := Node.kept v72; let v75 := Kept.snap v74; let v76 := Snap.config v75; let v77 := decide (v67 ≥ (2 : Int)); let v78 := decide (v67 < v69); let v79 := pickB v78 true !(mayC v70 && hasB (Config.voters v70) v2); True ∧ True ∧ True ∧ (v49 = true → True ∧ True ∧ (v77 = true → True ∧ (SmallN v51 ∧ v37 + v40 ≤ (1000000 : Nat) ∧ True) ∧ Node.id v54 = v26 ∧ Node.role v54 = v29 ∧ Kept.term v55 = v35 ∧ Kept.vote v55 = v38 ∧ Snap.index v56 = v44 ∧ Snap.term v56 = v42 ∧ Config.voters v58 = v48 ∧ Config.learners v58 = v47 ∧ Snap.data v56 = v45 ∧ Kept.entries v55 = v33 ∧ Node.commit v54 = v24 ∧ Node.lead v54 = v31 ∧ Node.elapsed v54 = v19 ∧ Node.round v54 = v23 ∧ Node.yes v54 = v25 ∧ Node.peers v54 = v18 ∧ Node.reads v54 = v32 ∧ Out.records v53 = v22 ∧ Out.messages v53 = v27 ∧ Out.ready v53 = v17 ∧ Out.lost v53 = v20 ∧ True) ∧ (v77 = false → v2 = v26 ∧ v6 = v29 ∧ v30 = v35 ∧ Kept.vote v12 = v38 ∧ Snap.index v21 = v44 ∧ Snap.term v21 = v42 ∧ Config.voters v41 = v48 ∧ Config.learners v41 = v47 ∧ Snap.data v21 = v45 ∧ Kept.entries v12 = v33 ∧ v14 = v24 ∧ v16 = v31 ∧ v67 = v19 ∧ v3 = v23 ∧ v9 = v25 ∧ v5 = v18 ∧ v8 = v32 ∧ v11 = v22 ∧ v4 = v27 ∧ v13 = v17 ∧ v7 = v20 ∧ True)) ∧ (v49 = false → (List.length v9 ≤ (17592186044416 : Nat) ∧ v40 ≤ (17592186044416 : Nat) ∧ List.length v8 ≤ (17592186044416 : Nat) ∧ ((!v78) = true → (!v78) = true) ∧ ((!v78) = true → (!v78) = true) ∧ ((!v78) = true → (!v78) = true) ∧ ((!v78) = true → (!v78) = true) ∧ ((!v78) = true → List.length v9 ≤ (17592186044416 : Nat)) ∧ ((!v78) = true → v40 ≤ (17592186044416 : Nat)) ∧ ((!v78) = true → List.length v8 ≤ (17592186044416 : Nat)) ∧ ((!v78) = true → SmallN v68) ∧ ((!v78) = true → (!v78) = true) ∧ ((!v78) = true → (!v78) = true) ∧ ((!v78) = true → (!v78) = true) ∧ ((!v78) = true → (!v78) = true) ∧ ((!v78) = true → (!v78) = true) ∧ ((!v78) = true → (!v78) = true) ∧ ((!v78) = true → (!v78) = true) ∧ (v78 = false → (!v78) = true) ∧ True) ∧ True ∧ (v79 = true → v2 = v26 ∧ v6 = v29 ∧ v30 = v35 ∧ Kept.vote v12 = v38 ∧ Snap.index v21 = v44 ∧ Snap.term v21 = v42 ∧ Config.voters v41 = v48 ∧ Config.learners v41 = v47 ∧ Snap.data v21 = v45 ∧ Kept.entries v12 = v33 ∧ v14 = v24 ∧ v16 = v31 ∧ v67 = v19 ∧ v3 = v23 ∧ v9 = v25 ∧ v5 = v18 ∧ v8 = v32 ∧ v11 = v22 ∧ v4 = v27 ∧ v13 = v17 ∧ v7 = v20 ∧ True) ∧ (v79 = false → True ∧ True ∧ True ∧ True ∧ (List.length v46 ≤ (17592186044416 : Nat) ∧ v40 ≤ (17592186044416 : Nat) ∧ List.length v8 ≤ (17592186044416 : Nat) ∧ List.length v11 ≤ (17592186044416 : Nat) ∧ v37 ≤ (17592186044416 : Nat) ∧ List.length v13 ≤ (17592186044416 : Nat) ∧ List.length v7 ≤ (17592186044416 : Nat) ∧ SmallN v57 ∧ True) ∧ True ∧ (v59 = true → (Few (70000 : Nat) v60 ∧ LogG v12 ∧ TermG v12 ∧ True) ∧ Node.id v62 = v26 ∧ Node.role v62 = v29 ∧ Kept.term v64 = v35 ∧ Kept.vote v64 = v38 ∧ Snap.index v65 = v44 ∧ Snap.term v65 = v42 ∧ Config.voters v66 = v48 ∧ Config.learners v66 = v47 ∧ Snap.data v65 = v45 ∧ Kept.entries v64 = v33 ∧ Node.commit v62 = v24 ∧ Node.lead v62 = v31 ∧ Node.elapsed v62 = v19 ∧ Node.round v62 = v23 ∧ Node.yes v62 = v25 ∧ Node.peers v62 = v18 ∧ Node.reads v62 = v32 ∧ Out.records v63 = v22 ∧ Out.messages v63 = v27 ∧ Out.ready v63 = v17 ∧ Out.lost v63 = v20 ∧ True) ∧ (v59 = false → (SmallN v57 ∧ SmallO v1 ∧ v37 ≤ (900000 : Nat) ∧ List.length (Config.voters (confC v57)) ≤ (4000 : Nat) ∧ True) ∧ Node.id v72 = v26 ∧ Node.role v72 = v29 ∧ Kept.term v74 = v35 ∧ Kept.vote v74 = v38 ∧ Snap.index v75 = v44 ∧ Snap.term v75 = v42 ∧ Config.voters v76 = v48 ∧ Config.learners v76 = v47 ∧ Snap.data v75 = v45 ∧ Kept.entries v74 = v33 ∧ Node.commit v72 = v24 ∧ Node.lead v72 = v31 ∧ Node.elapsed v72 = v19 ∧ Node.round v72 = v23 ∧ Node.yes v72 = v25 ∧ Node.peers v72 = v18 ∧ Node.reads v72 = v32 ∧ Out.records v73 = v22 ∧ Out.messages v73 = v27 ∧ Out.ready v73 = v17 ∧ Out.lost v73 = v20 ∧ True)))) (by kernel_rfl) ?_
  simp only [imp_self, implies_true, true_and, and_true, pickB_f, pickB_t, notF]
  have k1 := hf.elap
  obtain ⟨b1, b2, b3, b4, b5⟩ := (hf.sn (by decide)).ls
  have hp := hf.peers
  obtain ⟨c1, c2, c3, c4⟩ := (hf.so (by decide)).ls
  have hm := hf.messages
  refine ⟨fun hr => ⟨fun h => ?_, fun h => ?_⟩, fun hr => ⟨?_, fun h => ?_, fun h => ?_⟩⟩
  · have hr : s.n.role = 4 := by simpa using hr
    have h : 2 ≤ elap s.n := of_decide_eq_true h
    have e : tickT s = allS ⟨{ s.n with elapsed := 0 }, s.o⟩ := by rw [tickT, if_pos hr, if_pos h]
    have k : Few 50000 ⟨{ s.n with elapsed := 0 }, s.o⟩ := ⟨hf.entries, hf.ec, hf.sc, hf.yes, hf.peers, hf.reads, hf.records, hf.messages, hf.ready, hf.lost⟩
    rw [e]
    refine ⟨⟨k.sn (by decide), by omega⟩, ?_⟩
    repeat' apply And.intro
    all_goals rfl
  · have hr : s.n.role = 4 := by simpa using hr
    have h : ¬ 2 ≤ elap s.n := by
      intro h2
      have h3 := of_decide_eq_false h
      exact h3 h2
    have e : tickT s = elapS s := by rw [tickT, if_pos hr, if_neg h]
    rw [e]
    repeat' apply And.intro
    all_goals rfl
  · repeat' apply And.intro
    all_goals first | assumption | exact fun _ => by assumption | exact fun _ => k1.sn (by decide) | exact fun _ => k1.cf.c
  · have hr : ¬ s.n.role = 4 := by simpa using hr
    have h : elap s.n < patI s.n ∨ voterB s.n = false := by
      simp only [Bool.or_eq_true, decide_eq_true_eq, Bool.not_eq_true'] at h
      refine h.imp (fun h => h) fun h => ?_
      rw [voterB, Bool.and_comm]; exact h
    have e : tickT s = elapS s := by rw [tickT, if_neg hr, if_pos h]
    rw [e]
    repeat' apply And.intro
    all_goals rfl
  · have hr : ¬ s.n.role = 4 := by simpa using hr
    have h : ¬ (elap s.n < patI s.n ∨ voterB s.n = false) := by
      simp only [Bool.or_eq_false_iff, decide_eq_false_iff_not, Bool.not_eq_false'] at h
      rintro (h2 | h2)
      · exact h.1 h2
      · have h3 := h.2
        rw [voterB, Bool.and_comm] at h2
        rw [show (mayC (confC s.n) && hasB (confC s.n).voters s.n.id) = true from h3] at h2
        cases h2
    have k2 := k1.run 2 (by decide)
    refine ⟨?_, fun g => ?_, fun g => ?_⟩
    · obtain ⟨d1, d2, d3, d4, d5⟩ := (k2.sn (by decide)).ls
      repeat' apply And.intro
      all_goals first | assumption | exact k2.sn (by decide)
    · have g : enoughB (runS (elapS s) 2).n = true := g
      have e : tickT s = standS (runS (elapS s) 2) := by rw [tickT, if_neg hr, if_neg h, if_pos g]
      rw [e]
      refine ⟨⟨k2.mono (by decide), hg, ht⟩, ?_⟩
      repeat' apply And.intro
      all_goals rfl
    · have g : enoughB (runS (elapS s) 2).n = false := g
      have e : tickT s = askS (runS (elapS s) 2) (probeM s.n) := by rw [tickT, if_neg hr, if_neg h, if_neg (by rw [g]; decide)]
      rw [e]
      refine ⟨⟨k2.sn (by decide), k2.so (by decide), Nat.le_trans k2.messages (by decide), k2.cf.1⟩, ?_⟩
      repeat' apply And.intro
      all_goals rfl
theorem Few.tk {B : Nat} {s : Step} (h : Few B s) (h1 : 1 ≤ B) : Few (B + 5002) (tickT s) := by
 unfold tickT
 split
 ·split
  ·have k : Few B ⟨{ s.n with elapsed := 0 }, s.o⟩ := ⟨h.entries, h.ec, h.sc, h.yes, h.peers, h.reads, h.records, h.messages, h.ready, h.lost⟩
   exact k.all.mono (by omega)
  ·exact h.elap.mono (by omega)
 split
 ·exact h.elap.mono (by omega)
 split
 ·exact (h.elap.run 2 h1).stand
 ·exact (Few.ask _ (h.elap.run 2 h1)).mono (by omega)
def eRTickS : Ent := entN0 84 3 mSt vrS [1] glS fun s => ([Few 50000 s, LogG s.n.kept, TermG s.n.kept], .tup [], sMo 125 (tickT s))
theorem eRTickS_ok : EntOk Tryz.prog eRTickS := entN0_ok (fnB Tryz.func84 (by decide) rfl) fun s h => rtick_fn s (h _ (by simp)) (h _ (by simp)) (h _ (by simp))
theorem right_log {n : Node} (h : rightC n = true) : LogG n.kept ∧ TermG n.kept := by
 have g := right_iff.1 h
 have h1 := g.last
 rw [lastC_index g.on] at h1
 have h2 := g.len
 have h3 := g.term
 unfold wi at h3
 simp only [Bool.and_eq_true, decide_eq_true_eq] at h3
 exact ⟨⟨g.on, by omega, by omega⟩, ⟨h3.1, by omega⟩⟩
noncomputable def tabRu0 : List Ent := [eROfN, eRNo]
theorem tabRu0_ok : ∀ e ∈ tabRu0, EntOk Tryz.prog e := tab_cons eROfN_ok (tab_cons eRNo_ok tab_nil)
noncomputable def tabRu1 : List Ent := [eROfY, eRNo, eRTickS]
theorem tabRu1_ok : ∀ e ∈ tabRu1, EntOk Tryz.prog e := tab_cons eROfY_ok (tab_cons eRNo_ok (tab_cons eRTickS_ok tab_nil))
theorem rtickN_fn (n : Node) (hn : SmallN n) (hr : rightC n = false) : FnC Tryz.prog 26 [dNode.can n] (refO zeroN outZ 1) D3d := by
 refine FnG.of_vc (fitsT tabRu0_ok fun _ => none) Tryz.func26 rfl (by decide) rfl 300 (p := fun (V : List PE → Prop) => let v0 := Node.commit zeroN; let v1 := Out.messages outZ; let v2 := Node.kept zeroN; let v3 := Node.elapsed zeroN; let v4 := Kept.vote v2; let v5 := Kept.entries v2; let v6 := Kept.snap v2; let v7 := Kept.term v2; let v8 := Snap.term v6; let v9 := Snap.data v6; let v10 := Snap.config v6; let v11 := Snap.index v6; let v12 := Config.voters v10; let v13 := Config.learners v10; let v14 := (1 : Int) != (0 : Int); True ∧ (SmallN n ∧ rightC n = false ∧ True) ∧ True ∧ True ∧ (v14 = true → True ∧ Node.id zeroN = Node.id zeroN ∧ Node.role zeroN = Node.role zeroN ∧ v7 = v7 ∧ v4 = v4 ∧ v11 = v11 ∧ v8 = v8 ∧ v12 = v12 ∧ v13 = v13 ∧ v9 = v9 ∧ v5 = v5 ∧ v0 = v0 ∧ Node.lead zeroN = Node.lead zeroN ∧ v3 = v3 ∧ Node.yes zeroN = Node.yes zeroN ∧ Node.peers zeroN = Node.peers zeroN ∧ Node.round zeroN = Node.round zeroN ∧ Node.reads zeroN = Node.reads zeroN ∧ Out.records outZ = Out.records outZ ∧ v1 = v1 ∧ Out.ready outZ = Out.ready outZ ∧ Out.lost outZ = Out.lost outZ ∧ (1 : Int) = (1 : Int) ∧ True) ∧ (v14 = false → False)) (by kernel_rfl) ?_
 simp only [imp_self, implies_true, true_and, and_true, pickB_f, pickB_t]
 exact ⟨⟨hn, hr⟩, fun h => absurd h (by decide)⟩
theorem rtickY_fn (n : Node) (hr : rightC n = true) (hf : Few 50000 (stepZ n)) : FnC Tryz.prog 26 [dNode.can n] (refO (tickS n).n (tickS n).o 0) D3d := by
 refine FnG.of_vc (fitsT tabRu1_ok fun _ => none) Tryz.func26 rfl (by decide) rfl 300 (p := fun (V : List PE → Prop) => let v0 := Node.kept zeroN; let v1 := Step.n (tickS n); let v2 := Step.o (tickS n); let v3 := Kept.snap v0; let v4 := Node.elapsed v1; let v5 := Node.yes v1; let v6 := Node.reads v1; let v7 := Node.kept v1; let v8 := Node.id v1; let v9 := Node.role v1; let v10 := Out.messages v2; let v11 := Node.lead v1; let v12 := Out.records v2; let v13 := Snap.config v3; let v14 := Node.commit v1; let v15 := Node.peers v1; let v16 := Node.round v1; let v17 := Out.ready v2; let v18 := Out.lost v2; let v19 := Kept.entries v7; let v20 := Kept.vote v7; let v21 := Kept.snap v7; let v22 := Kept.term v7; let v23 := (0 : Int); let v24 := Snap.term v21; let v25 := Snap.config v21; let v26 := Snap.index v21; let v27 := Snap.data v21; let v28 := Config.learners v25; let v29 := Config.voters v25; let v30 := Step.mk n (Out.mk [] [] [] []); let v31 := tickT v30; let v32 := Step.n v31; let v33 := Step.o v31; let v34 := Out.records v33; let v35 := Node.kept v32; let v36 := Node.reads v32; let v37 := Out.lost v33; let v38 := Out.ready v33; let v39 := Node.yes v32; let v40 := Out.messages v33; let v41 := Node.peers v32; let v42 := v23 != v23; let v43 := Kept.snap v35; let v44 := Snap.config v43; True ∧ (SmallN n ∧ rightC n = true ∧ True) ∧ True ∧ True ∧ (v42 = true → True ∧ Node.id zeroN = v8 ∧ Node.role zeroN = v9 ∧ Kept.term v0 = v22 ∧ Kept.vote v0 = v20 ∧ Snap.index v3 = v26 ∧ Snap.term v3 = v24 ∧ Config.voters v13 = v29 ∧ Config.learners v13 = v28 ∧ Snap.data v3 = v27 ∧ Kept.entries v0 = v19 ∧ Node.commit zeroN = v14 ∧ Node.lead zeroN = v11 ∧ Node.elapsed zeroN = v4 ∧ Node.yes zeroN = v5 ∧ Node.peers zeroN = v15 ∧ Node.round zeroN = v16 ∧ Node.reads zeroN = v6 ∧ Out.records outZ = v12 ∧ Out.messages outZ = v10 ∧ Out.ready outZ = v17 ∧ Out.lost outZ = v18 ∧ v23 = v23 ∧ True) ∧ (v42 = false → (Few (50000 : Nat) v30 ∧ LogG (Node.kept n) ∧ TermG (Node.kept n) ∧ True) ∧ True ∧ Node.id v32 = v8 ∧ Node.role v32 = v9 ∧ Kept.term v35 = v22 ∧ Kept.vote v35 = v20 ∧ Snap.index v43 = v26 ∧ Snap.term v43 = v24 ∧ Config.voters v44 = v29 ∧ Config.learners v44 = v28 ∧ Snap.data v43 = v27 ∧ Kept.entries v35 = v19 ∧ Node.commit v32 = v14 ∧ Node.lead v32 = v11 ∧ Node.elapsed v32 = v4 ∧ v39 = v5 ∧ List.length v39 ≤ (17592186044416 : Nat) ∧ v41 = v15 ∧ List.length v41 ≤ (17592186044416 : Nat) ∧ Node.round v32 = v16 ∧ v36 = v6 ∧ List.length v36 ≤ (17592186044416 : Nat) ∧ v34 = v12 ∧ List.length v34 ≤ (17592186044416 : Nat) ∧ v40 = v10 ∧ List.length v40 ≤ (17592186044416 : Nat) ∧ v38 = v17 ∧ List.length v38 ≤ (17592186044416 : Nat) ∧ v37 = v18 ∧ List.length v37 ≤ (17592186044416 : Nat) ∧ v23 = v23 ∧ True)) (by kernel_rfl) ?_
 simp only [imp_self, implies_true, true_and, and_true, pickB_f, pickB_t]
 have k := hf.tk (by decide)
 obtain ⟨b1, b2, b3, b4, b5⟩ := (k.sn (by decide)).ls
 obtain ⟨c1, c2, c3, c4⟩ := (k.so (by decide)).ls
 refine ⟨⟨hf.sn (by decide), hr⟩, fun h => absurd h (by decide), fun _ => ⟨⟨hf, (right_log hr).1, (right_log hr).2⟩, ?_⟩⟩
 repeat' apply And.intro
 all_goals first | rfl | assumption
theorem rtickC_fn (n : Node) (hf : Few 50000 (stepZ n)) : FnC Tryz.prog 26 [dNode.can n] (refO (tickC n).1.n (tickC n).1.o (tickC n).2) D3d := by
 unfold tickC
 cases hr : rightC n
 ·exact rtickN_fn n (hf.sn (by decide)) hr
 ·exact rtickY_fn n hr hf
end Go.Proofs.YteabcgkjbnecaaaGreat
namespace Go.Proofs.YteabcgkjbnecaaaGreat
open Go.RowKit Go.ChangeShapes Go.WideShapes Go.Deep
set_option linter.unusedVariables false
set_option linter.unusedSimpArgs false
def cxW (E : Env) : Cx := ⟨fun b => E.lab b, 0, fun i b => E.σ i b, fun t => if t < 2 then E.β t else none⟩
def SV.gnd : SV → Bool
 | .any => true
 | .int _ _ => true
 | .bool _ => true
 | _ => false
theorem SV.gnd_den {r : SV} (h : r.gnd = true) {E E2 : Env} {w w2 : World} {v : Value} (hd : DenV E w r v) : DenV E2 w2 r v := by
 cases r <;> first | exact hd | (exfalso; exact Bool.noConfusion h)
def FnW (P : Program) (f : FuncId) (ins : List SV) (r : SV) : Prop :=
 FnB P f ∧ ∀ (w : World) (E : Env) (vals : List Value), MemOk w.heap.size (cxW E) w E (mOf D2) w → DenL E w ins vals → Calls P f vals.toArray w (fun e w' => ∃ v, e = .returned v ∧ (∀ E2 w2, DenV E2 w2 r v) ∧ BelowX w.heap.size E.lab w w')
structure WEnt where
 f : FuncId
 go : List SV → Option (List Prop × SV)
def WEntOk (P : Program) (e : WEnt) : Prop := FnB P e.f ∧ ∀ ins n r, e.go ins = some (n, r) → (∀ p ∈ n, p) → FnW P e.f ins r
def findW : List WEnt → FuncId → Option WEnt
 | [], _ => none
 | e :: r, f => bif Nat.beq e.f f then some e else findW r f
theorem findW_mem : ∀ {tab : List WEnt} {f : FuncId} {e : WEnt}, findW tab f = some e → e ∈ tab ∧ e.f = f
  | [], _, _, h => by simp [findW] at h
  | a :: r, f, e, h => by
    simp only [findW] at h
    cases hb : Nat.beq a.f f
    · rw [hb] at h
      obtain ⟨h1, h2⟩ := findW_mem (tab := r) h
      exact ⟨List.mem_cons_of_mem _ h1, h2⟩
    · rw [hb] at h
      simp only [cond_true, Option.some.injEq] at h
      subst h
      exact ⟨List.mem_cons_self .., Nat.eq_of_beq_eq_true hb⟩
def clW (m : Nat → BE) (svs : List SV) : Cl := ⟨⟨m, []⟩, [], [], 1, svs⟩
def orwT (tab : List WEnt) (f : FuncId) (st : St) (svs : List SV) : Option (List Prop × List Nat × SV) :=
  match findW tab f with
  | none => none
  | some e => if (clW st.m svs).ok && (clW st.m svs).OP.isEmpty then (match e.go (clW st.m svs).ins with
    | some (n, r) => some ((clW st.m svs).needs ++ n, (clW st.m svs).LP.map (·.2), r)
    | none => none) else none
theorem orwT_ok {P : Program} {tab : List WEnt} (ht : ∀ e ∈ tab, WEntOk P e) (kd : TypeId → Option RL) (oc : Nat → FuncId → St → List SV → Option Upd) : WOk P ⟨kd, oc, orwT tab⟩ := by
 intro f st svs n ls r h
 have h2 : orwT tab f st svs = some (n, ls, r) := h
 clear h
 unfold orwT at h2
 split at h2
 case h_1 => simp at h2
 rename_i e he
 obtain ⟨hin, rfl⟩ := findW_mem he
 obtain ⟨hB, hE⟩ := ht e hin
 refine ⟨hB, fun base X w0 E w vals hm hd hn => ?_⟩
 split at h2
 case isFalse => simp at h2
 rename_i hck
 simp only [Bool.and_eq_true] at hck
 obtain ⟨hok, hop⟩ := hck
 split at h2
 case h_2 => simp at h2
 rename_i n2 r2 hgo
 simp only [Option.some.injEq, Prod.mk.injEq] at h2
 obtain ⟨rfl, rfl, rfl⟩ := h2
 have hOP : (clW st.m svs).OP = [] := List.isEmpty_iff.1 hop
 have hg := Cl.good hok
 have hneed : ∀ p ∈ (clW st.m svs).needs, p := fun p hp => hn p (List.mem_append_left _ hp)
 have hin2 := Cl.memIn (q := clW st.m svs) (E := E) hm hg hneed
 have hmi : (clW st.m svs).mi = D2 := rfl
 rw [hmi] at hin2
 have hmW : MemOk w.heap.size (cxW ((clW st.m svs).env E)) w ((clW st.m svs).env E) (mOf D2) w :=
  ⟨hin2.empty, hin2.cells, hin2.row, fun i b hb => ⟨(hin2.lab i b hb).1, fun _ => .inr ⟨i, hb⟩⟩, hin2.dis, fun i hi => absurd hi (Nat.not_lt_zero i), fun t b hb => absurd hb D2_no, fun i b hi => absurd hi (Nat.not_lt_zero i), hin2.inj, hin2.keep, BelowX.refl _ _ _, Nat.le_refl _⟩
 have hda : DenL ((clW st.m svs).env E) w (clW st.m svs).ins vals := Cl.denA (q := clW st.m svs) hm svs [] vals (fun p hp => List.mem_append_left _ hp) (fun p hp => List.mem_append_left _ hp) hd (fun p hp => hneed p (List.mem_append_left _ hp))
 refine Calls.mono ((hE _ _ _ hgo (fun p hp => hn p (List.mem_append_right _ hp))).2 w _ vals hmW hda) ?_
 rintro e' w' ⟨v, rfl, hrr, hBl⟩
 refine ⟨v, rfl, hrr, hBl.os, hBl.tape, hBl.output, hBl.size, fun b hb hns => hBl.block b hb (fun ⟨i, hi⟩ => hns ?_)⟩
 rcases hi with ⟨j, hj, hs⟩ | ⟨t, htt, _⟩
 ·exact ⟨j, List.mem_map.2 ⟨(i, j), hj, rfl⟩, hs⟩
 ·rw [hOP] at htt; cases htt
theorem wtab_nil {P : Program} : ∀ e ∈ ([] : List WEnt), WEntOk P e := fun _ h => by cases h
theorem wtab_cons {P : Program} {e : WEnt} {tab : List WEnt} (h : WEntOk P e) (ht : ∀ e ∈ tab, WEntOk P e) : ∀ x ∈ e :: tab, WEntOk P x := by
 intro x hx
 rcases List.mem_cons.1 hx with rfl | hx
 ·exact h
 ·exact ht x hx
theorem fitsW {tab : List Ent} {wtab : List WEnt} (h : ∀ e ∈ tab, EntOk Tryz.prog e) (hw : ∀ e ∈ wtab, WEntOk Tryz.prog e) (kd : TypeId → Option RL) : World.Fits Tryz.prog ⟨kd, orcT tab, orwT wtab⟩ (moreA Tryz.prog) := ⟨by kernel_rfl, orcT_ok h kd _, orcT_loc tab kd _, moreA_ok _, moreA_loc _, orwT_ok hw kd _⟩
def goW2 {α β : Type} (a : Dec α) (b : Dec β) (r : α → β → List Prop × SV) (ins : List SV) : Option (List Prop × SV) := match ins with
  | [s, t] => match a.strict s, b.strict t with
    | some x, some y => some (r x y)
    | _, _ => none
  | _ => none
def went2 {α β : Type} (f : FuncId) (a : Dec α) (b : Dec β) (r : α → β → List Prop × SV) : WEnt := ⟨f, goW2 a b r⟩
theorem went2_ok {P : Program} {α β : Type} {f : FuncId} {a : Dec α} {b : Dec β} {r : α → β → List Prop × SV} (hB : FnB P f) (h : ∀ x y, (∀ p ∈ (r x y).1, p) → FnW P f [a.can x, b.can y] (r x y).2) : WEntOk P (went2 f a b r) := by
 refine ⟨hB, fun ins n rr hg hn => ?_⟩
 change goW2 a b r ins = some (n, rr) at hg
 unfold goW2 at hg
 split at hg
 case h_2 => simp at hg
 rename_i s t
 split at hg
 case h_2 => simp at hg
 rename_i x y ex ey
 simp only [Option.some.injEq] at hg
 have h1 : (r x y).1 = n := by rw [hg]
 have h2 : (r x y).2 = rr := by rw [hg]
 subst h1; subst h2
 refine ⟨hB, fun w E vals hm hd => (h x y hn).2 w E vals hm ?_⟩
 match vals, hd with
 | [v, u], hd => exact ⟨a.strict_ok ex hd.1, b.strict_ok ey hd.2.1, trivial⟩
end Go.Proofs.YteabcgkjbnecaaaGreat
namespace Go.Proofs.YteabcgkjbnecaaaGreat
open Go.RowKit Go.ChangeShapes Go.WideShapes Go.Deep
set_option linter.unusedVariables false
set_option linter.unusedSimpArgs false
set_option maxRecDepth 100000
structure Tch (L : Nat → Prop) (base : Nat) (w w' : World) : Prop where
 keep : ∀ p v, w.cell? p = some v → ∃ v', w'.cell? p = some v' ∧ ((∃ a n c, v = .slice a n c) → v' = v) ∧ (w.frozen? p = false → w'.frozen? p = false)
 below : BelowX base L w w'
theorem Tch.refl (L : Nat → Prop) (base : Nat) (w : World) : Tch L base w w := ⟨fun p v h => ⟨v, h, fun _ => rfl, fun h => h⟩, BelowX.refl _ _ _⟩
theorem Tch.sl {L : Nat → Prop} {base : Nat} {w w' : World} (h : Tch L base w w') {p : Addr} {a : Option Addr} {n c : Nat} (hp : w.cell? p = some (.slice a n c)) : w'.cell? p = some (.slice a n c) := by
 obtain ⟨v', h1, h2, _⟩ := h.keep p _ hp
 rw [h1, h2 ⟨a, n, c, rfl⟩]
theorem Tch.cell {L : Nat → Prop} {base : Nat} {w w' : World} (h : Tch L base w w') {p : Addr} {v : Value} (hp : w.cell? p = some v) (hf : w.frozen? p = false) : (∃ v', w'.cell? p = some v') ∧ w'.frozen? p = false := by
 obtain ⟨v', h1, _, h3⟩ := h.keep p _ hp
 exact ⟨⟨v', h1⟩, h3 hf⟩
theorem Tch.set {L : Nat → Prop} {base : Nat} {w w' : World} (h : Tch L base w w') {q : Addr} {x : Value} (hq : w.cell? q = some x) (hx : ¬ ∃ a n c, x = .slice a n c) (hL : L q.block) (u : Value) : Tch L base w (w'.setCell q u) := by
 refine ⟨fun p v hp => ?_, h.below.os, h.below.tape, h.below.output, ?_, fun b hb hn => ?_⟩
 ·by_cases e : p = q
  ·subst e
   rw [hq] at hp
   cases hp
   obtain ⟨v', h1, h2, h3⟩ := h.keep p x hq
   exact ⟨u, World.cell?_setCell_same' _ _ _ (by rw [h1]; rfl), fun h => absurd h hx, fun hf => by have := h3 hf; simpa using this⟩
  ·obtain ⟨v', h1, h2, h3⟩ := h.keep p v hp
   exact ⟨v', (World.cell?_setCell_other w' q p u (fun h => e (by first | exact h | exact h.symm))).trans h1, h2, fun hf => by have := h3 hf; simpa using this⟩
 ·simpa [World.setCell] using h.below.size
 ·rw [Below.heap_setCell _ _ _ _ (fun e => hn (by subst e; exact hL))]
  exact h.below.block b hb hn
theorem BelowX.trans' {base : Nat} {L : Nat → Prop} {w w1 w2 : World} (h : BelowX base L w w1) (h2 : BelowX base L w1 w2) : BelowX base L w w2 :=
 ⟨h2.os.trans h.os, h2.tape.trans h.tape, h2.output.trans h.output, Nat.le_trans h.size h2.size, fun b hb hn => (h2.block b hb hn).trans (h.block b hb hn)⟩
theorem nsl_int {k : IntKind} {n : Int} : ¬ ∃ a m c, Value.int k n = .slice a m c := by rintro ⟨_, _, _, e⟩; cases e
theorem nsl_str {s : ByteArray} : ¬ ∃ a m c, Value.string s = .slice a m c := by rintro ⟨_, _, _, e⟩; cases e
set_option maxHeartbeats 4000000 in
theorem over_any (vs us : List Value) (n : Node) (o : Out) (w : World) (S : Nat → Prop) (hS : ∀ b, S b → b < w.heap.size) (h : RdL w S Node.ty vs n.enc) (h' : RdL w S Out.ty us o.enc) :
    Calls Tryz.prog 17 #[.agg vs.toArray, .agg us.toArray] w (fun e w' => ∃ v, e = .returned v ∧ BelowX w.heap.size S w w') := by
  obtain ⟨a6, c6, a7, c7, a9, c9, a13, c13, a14, c14, a16, c16, rfl, _, _, _, _, _, _, _, _, _, s9, _, _, _, s13, s14, _, s16⟩ := Node.opens h
  obtain ⟨e0, f0, e1, f1, e2, f2, e3, f3, rfl, _, t1, _, _⟩ := Out.opens h'
  obtain ⟨w1, hw1⟩ : ∃ w1, (w.alloc (.cells #[.int .i64 n.id, .int .i64 n.role, .int .i64 n.kept.term, .int .i64 n.kept.vote, .int .i64 n.kept.snap.index, .int .i64 n.kept.snap.term, .slice a6 n.kept.snap.config.voters.length c6, .slice a7 n.kept.snap.config.learners.length c7, .string n.kept.snap.data, .slice a9 n.kept.entries.length c9, .int .i64 n.commit, .int .i64 n.lead, .int .i64 n.elapsed, .slice a13 n.yes.length c13, .slice a14 n.peers.length c14, .int .i64 n.round, .slice a16 n.reads.length c16] 35)).alloc (.cells #[.slice e0 o.records.length f0, .slice e1 o.messages.length f1, .slice e2 o.ready.length f2, .slice e3 o.lost.length f3] 49) = w1 := ⟨_, rfl⟩
  have hB1 : Below w.heap.size w w1 := by rw [← hw1]; exact ((Below.refl _ w).alloc (Nat.le_refl _) _).alloc (by simp) _
  have q9 : w1.cell? ⟨w.heap.size, 9, none⟩ = some (.slice a9 n.kept.entries.length c9) := by rw [← hw1]; exact ((Blk.new w _ _).alloc _).cell 9
  have q13 : w1.cell? ⟨w.heap.size, 13, none⟩ = some (.slice a13 n.yes.length c13) := by rw [← hw1]; exact ((Blk.new w _ _).alloc _).cell 13
  have q14 : w1.cell? ⟨w.heap.size, 14, none⟩ = some (.slice a14 n.peers.length c14) := by rw [← hw1]; exact ((Blk.new w _ _).alloc _).cell 14
  have q1 : w1.cell? ⟨w.heap.size + 1, 1, none⟩ = some (.slice e1 o.messages.length f1) := by
    rw [← hw1]
    have hk := (Blk.new (w.alloc (.cells #[.int .i64 n.id, .int .i64 n.role, .int .i64 n.kept.term, .int .i64 n.kept.vote, .int .i64 n.kept.snap.index, .int .i64 n.kept.snap.term, .slice a6 n.kept.snap.config.voters.length c6, .slice a7 n.kept.snap.config.learners.length c7, .string n.kept.snap.data, .slice a9 n.kept.entries.length c9, .int .i64 n.commit, .int .i64 n.lead, .int .i64 n.elapsed, .slice a13 n.yes.length c13, .slice a14 n.peers.length c14, .int .i64 n.round, .slice a16 n.reads.length c16] 35)) 49 #[.slice e0 o.records.length f0, .slice e1 o.messages.length f1, .slice e2 o.ready.length f2, .slice e3 o.lost.length f3]).cell 1
    rw [show (w.alloc (.cells #[.int .i64 n.id, .int .i64 n.role, .int .i64 n.kept.term, .int .i64 n.kept.vote, .int .i64 n.kept.snap.index, .int .i64 n.kept.snap.term, .slice a6 n.kept.snap.config.voters.length c6, .slice a7 n.kept.snap.config.learners.length c7, .string n.kept.snap.data, .slice a9 n.kept.entries.length c9, .int .i64 n.commit, .int .i64 n.lead, .int .i64 n.elapsed, .slice a13 n.yes.length c13, .slice a14 n.peers.length c14, .int .i64 n.round, .slice a16 n.reads.length c16] 35)).heap.size = w.heap.size + 1 by simp] at hk
    exact hk
  have hB2 : BelowX w.heap.size S w w1 := ⟨hB1.os, hB1.tape, hB1.output, hB1.size, fun b hb _ => hB1.block b hb⟩
  have H9 := Lib.hid (s9.same (Same.below hB1))
  have H13 := Lib.hid (s13.same (Same.below hB1))
  have H14 := Lib.hid (s14.same (Same.below hB1))
  have HM := Lib.hid (t1.same (Same.below hB1))
  have n9 := s9.bd.2.2.1
  have n13 := s13.bd.2.2.1
  have n14 := s14.bd.2.2.1
  have nM := t1.bd.2.2.1
  have Q9 := Lib.hid q9
  have Q13 := Lib.hid q13
  have Q14 := Lib.hid q14
  have Q1 := Lib.hid q1
  have HX := Lib.hid hB2
  have HW := Lib.hid hw1
  clear h h' s9 s13 s14 s16 t1 q9 q13 q14 q1 hB1 hB2 hw1
  go_enter Tryz.func17, Tryz.ntmps17
  go_wp2_with fail
  rw [HW.out]
  go_loopw [4] (fun i wr => ∃ j : Nat, j ≤ n.kept.entries.length ∧ i = .int .i64 j ∧ Tch S w.heap.size w1 wr) (fun i _ => n.kept.entries.length - (intOf i).toNat)
  case atStart => exact ⟨0, Nat.zero_le _, rfl, Tch.refl _ _ _⟩
  case round =>
    obtain ⟨j, hj, rfl, hk⟩ := hrel
    have r9 := hk.sl Q9.out
    by_cases hlt : j < n.kept.entries.length
    · obtain ⟨b, off, rfl⟩ := H9.out.addr (by omega)
      obtain ⟨hS1, hb1, a3e, c3e, a4e, c4e, x0, x1, x2, x3, x4, x5, y0, y1, y2, y3, y4, y5⟩ := Entry.row H9.out hlt
      have t5 := H9.out.thaw (j := 5) hlt (by decide)
      rw [show Entry.ty.length = 6 from rfl] at t5
      generalize n.kept.entries.getD j default = e at *
      have k0 : (0 : Int) ≤ (j : Int) := by omega
      have k1 : (j : Int) < (n.kept.entries.length : Int) := by omega
      obtain ⟨⟨z5, p5⟩, t5'⟩ := hk.cell x5 t5
      have F3 := Lib.hid y3
      have HK := Lib.hid (hk.set x5 nsl_str hS1 (.string ⟨#[111, 118, 101, 114]⟩))
      have E3 := Lib.hid x3
      have n3 := y3.bd.2.2.1
      clear x0 x1 x2 x3 x4 x5 y0 y1 y2 y3 y4 y5 hk t5
      go_wp2_with fail
      go_loopw [5] (fun i wr2 => ∃ m : Nat, m ≤ e.config.voters.length ∧ i = .int .i64 m ∧ Tch S w.heap.size w1 wr2) (fun i _ => e.config.voters.length - (intOf i).toNat)
      case atStart => exact ⟨0, Nat.zero_le _, rfl, HK.out⟩
      case round =>
        obtain ⟨m, hm, rfl, hk2⟩ := hrel
        rename World => wr2
        have q3 := hk2.sl E3.out
        have r9b := hk2.sl Q9.out
        by_cases hlm : m < e.config.voters.length
        · obtain ⟨b3, off3, rfl⟩ := F3.out.addr (by omega)
          obtain ⟨hb3, c3, _⟩ := SlI.cell F3.out hlm
          have t3 := F3.out.thaw (j := 0) hlm (by decide)
          simp only [List.length_cons, List.length_nil, Nat.zero_add, Nat.mul_one, Nat.add_zero] at t3
          have hS3 : S b3 := by
            obtain ⟨b4, off4, e4, h4, _⟩ := F3.out.rowAt (by omega)
            cases e4; exact h4
          have m0 : (0 : Int) ≤ (m : Int) := by omega
          have m1 : (m : Int) < (e.config.voters.length : Int) := by omega
          obtain ⟨⟨z3, g3⟩, t3'⟩ := hk2.cell c3 t3
          have HK2 := Lib.hid (hk2.set c3 nsl_int hS3 (.int .i64 77))
          clear c3 t3 hk2
          go_wp2_with fail
          go_roundw
          case rel => exact ⟨m + 1, by omega, by go_num, HK2.out⟩
          case measure => simp [intOf]; omega
        · have hmn : m = e.config.voters.length := by omega
          subst hmn
          have HK2 := Lib.hid hk2
          have m1 : ¬ ((e.config.voters.length : Nat) : Int) < (e.config.voters.length : Int) := by omega
          clear hk2 hlm
          go_wp2_with fail
          go_roundw
          case rel => exact ⟨j + 1, by omega, by go_num, HK2.out⟩
          case measure => simp [intOf]; omega
    · have k1 : ¬ (j : Int) < (n.kept.entries.length : Int) := by omega
      have HK := Lib.hid hk
      clear hk r9
      have r9 := HK.out.sl Q9.out
      go_wp2_with fail
      go_loopw [6] (fun i wr => ∃ j : Nat, j ≤ n.peers.length ∧ i = .int .i64 j ∧ Tch S w.heap.size w1 wr) (fun i _ => n.peers.length - (intOf i).toNat)
      case atStart => exact ⟨0, Nat.zero_le _, rfl, HK.out⟩
      case round =>
        obtain ⟨j, hj, rfl, hk⟩ := hrel
        have r14 := hk.sl Q14.out
        by_cases hlt : j < n.peers.length
        · obtain ⟨b, off, rfl⟩ := H14.out.addr (by omega)
          obtain ⟨hS1, hb1, x0, _⟩ := Peer.row H14.out hlt
          have t5 := H14.out.thaw (j := 0) hlt (by decide)
          rw [show Peer.ty.length = 4 from rfl, Nat.add_zero] at t5
          have k0 : (0 : Int) ≤ (j : Int) := by omega
          have k1 : (j : Int) < (n.peers.length : Int) := by omega
          obtain ⟨⟨z5, p5⟩, t5'⟩ := hk.cell x0 t5
          have HK := Lib.hid (hk.set x0 nsl_int hS1 (.int .i64 77))
          clear x0 hk t5
          go_wp2_with fail
          go_roundw
          case rel => exact ⟨j + 1, by omega, by go_num, HK.out⟩
          case measure => simp [intOf]; omega
        · have k1 : ¬ (j : Int) < (n.peers.length : Int) := by omega
          have HK := Lib.hid hk
          clear hk r14
          have r14 := HK.out.sl Q14.out
          go_wp2_with fail
          go_loopw [7] (fun i wr => ∃ j : Nat, j ≤ n.yes.length ∧ i = .int .i64 j ∧ Tch S w.heap.size w1 wr) (fun i _ => n.yes.length - (intOf i).toNat)
          case atStart => exact ⟨0, Nat.zero_le _, rfl, HK.out⟩
          case round =>
            obtain ⟨j, hj, rfl, hk⟩ := hrel
            have r13 := hk.sl Q13.out
            by_cases hlt : j < n.yes.length
            · obtain ⟨b, off, rfl⟩ := H13.out.addr (by omega)
              obtain ⟨hb1, x0, _⟩ := SlI.cell H13.out hlt
              have t5 := H13.out.thaw (j := 0) hlt (by decide)
              simp only [List.length_cons, List.length_nil, Nat.zero_add, Nat.mul_one, Nat.add_zero] at t5
              have hS1 : S b := by
                obtain ⟨b4, off4, e4, h4, _⟩ := H13.out.rowAt (by omega)
                cases e4; exact h4
              have k0 : (0 : Int) ≤ (j : Int) := by omega
              have k1 : (j : Int) < (n.yes.length : Int) := by omega
              obtain ⟨⟨z5, p5⟩, t5'⟩ := hk.cell x0 t5
              have HK := Lib.hid (hk.set x0 nsl_int hS1 (.int .i64 77))
              clear x0 hk t5
              go_wp2_with fail
              go_roundw
              case rel => exact ⟨j + 1, by omega, by go_num, HK.out⟩
              case measure => simp [intOf]; omega
            · have k1 : ¬ (j : Int) < (n.yes.length : Int) := by omega
              have HK := Lib.hid hk
              clear hk r13
              have r13 := HK.out.sl Q13.out
              go_wp2_with fail
              go_loopw [8] (fun i wr => ∃ j : Nat, j ≤ o.messages.length ∧ i = .int .i64 j ∧ Tch S w.heap.size w1 wr) (fun i _ => o.messages.length - (intOf i).toNat)
              case atStart => exact ⟨0, Nat.zero_le _, rfl, HK.out⟩
              case round =>
                obtain ⟨j, hj, rfl, hk⟩ := hrel
                have r1 := hk.sl Q1.out
                by_cases hlt : j < o.messages.length
                · obtain ⟨b, off, rfl⟩ := HM.out.addr (by omega)
                  obtain ⟨hS1, hb1, g6, d6, g12, d12, g13, d13, x0, x1, x2, x3, x4, x5, x6, x7, x8, x9, x10, x11, x12, x13, x14, x15, x16, x17, y⟩ := Message.row HM.out hlt
                  have y6 := y.2.2.2.2.2.2.1
                  have y12 := y.2.2.2.2.2.2.2.2.2.2.2.1
                  generalize o.messages.getD j default = e at *
                  have k0 : (0 : Int) ≤ (j : Int) := by omega
                  have k1 : (j : Int) < (o.messages.length : Int) := by omega
                  have HK := Lib.hid hk
                  have F6 := Lib.hid y6
                  have F12 := Lib.hid y12
                  have E6 := Lib.hid x6
                  have E12 := Lib.hid x12
                  have n6 := y6.bd.2.2.1
                  have n12 := y12.bd.2.2.1
                  clear x0 x1 x2 x3 x4 x5 x6 x7 x8 x9 x10 x11 x12 x13 x14 x15 x16 x17 y y6 y12 hk
                  go_wp2_with fail
                  go_loopw [9] (fun i wr2 => ∃ m : Nat, m ≤ e.entries.length ∧ i = .int .i64 m ∧ Tch S w.heap.size w1 wr2) (fun i _ => e.entries.length - (intOf i).toNat)
                  case atStart => exact ⟨0, Nat.zero_le _, rfl, HK.out⟩
                  case round =>
                    obtain ⟨m, hm, rfl, hk2⟩ := hrel
                    rename World => wr2
                    have q6 := hk2.sl E6.out
                    have r1b := hk2.sl Q1.out
                    by_cases hlm : m < e.entries.length
                    · obtain ⟨b3, off3, rfl⟩ := F6.out.addr (by omega)
                      obtain ⟨hS3, hb3, _, _, _, _, z0, z1, z2, z3, z4, z5, _⟩ := Entry.row F6.out hlm
                      have t3 := F6.out.thaw (j := 5) hlm (by decide)
                      rw [show Entry.ty.length = 6 from rfl] at t3
                      have m0 : (0 : Int) ≤ (m : Int) := by omega
                      have m1 : (m : Int) < (e.entries.length : Int) := by omega
                      obtain ⟨⟨u3, g3⟩, t3'⟩ := hk2.cell z5 t3
                      have HK2 := Lib.hid (hk2.set z5 nsl_str hS3 (.string ⟨#[111, 118, 101, 114]⟩))
                      clear z0 z1 z2 z3 z4 z5 t3 hk2
                      go_wp2_with fail
                      go_roundw
                      case rel => exact ⟨m + 1, by omega, by go_num, HK2.out⟩
                      case measure => simp [intOf]; omega
                    · have m1 : ¬ (m : Int) < (e.entries.length : Int) := by omega
                      have HK2 := Lib.hid hk2
                      clear hk2 q6 r1b
                      have q6 := HK2.out.sl E6.out
                      have r1b := HK2.out.sl Q1.out
                      go_wp2_with fail
                      go_loopw [10] (fun i wr2 => ∃ m : Nat, m ≤ e.snap.config.voters.length ∧ i = .int .i64 m ∧ Tch S w.heap.size w1 wr2) (fun i _ => e.snap.config.voters.length - (intOf i).toNat)
                      case atStart => exact ⟨0, Nat.zero_le _, rfl, HK2.out⟩
                      case round =>
                        obtain ⟨m3, hm3, rfl, hk3⟩ := hrel
                        rename World => wr3
                        have q12 := hk3.sl E12.out
                        have r1c := hk3.sl Q1.out
                        by_cases hlm3 : m3 < e.snap.config.voters.length
                        · obtain ⟨b3, off3, rfl⟩ := F12.out.addr (by omega)
                          obtain ⟨hb3, c3, _⟩ := SlI.cell F12.out hlm3
                          have t3 := F12.out.thaw (j := 0) hlm3 (by decide)
                          simp only [List.length_cons, List.length_nil, Nat.zero_add, Nat.mul_one, Nat.add_zero] at t3
                          have hS3 : S b3 := by
                            obtain ⟨b4, off4, e4, h4, _⟩ := F12.out.rowAt (by omega)
                            cases e4; exact h4
                          have m0 : (0 : Int) ≤ (m3 : Int) := by omega
                          have m1 : (m3 : Int) < (e.snap.config.voters.length : Int) := by omega
                          obtain ⟨⟨z3, g3⟩, t3'⟩ := hk3.cell c3 t3
                          have HK3 := Lib.hid (hk3.set c3 nsl_int hS3 (.int .i64 77))
                          clear c3 t3 hk3
                          go_wp2_with fail
                          go_roundw
                          case rel => exact ⟨m3 + 1, by omega, by go_num, HK3.out⟩
                          case measure => simp [intOf]; omega
                        · have m1 : ¬ (m3 : Int) < (e.snap.config.voters.length : Int) := by omega
                          have HK3 := Lib.hid hk3
                          clear hk3
                          go_wp2_with fail
                          go_roundw
                          case rel => exact ⟨j + 1, by omega, by go_num, HK3.out⟩
                          case measure => simp [intOf]; omega
                · have k1 : ¬ (j : Int) < (o.messages.length : Int) := by omega
                  have HK := Lib.hid hk
                  clear hk r1
                  have r1 := HK.out.sl Q1.out
                  go_wp2_with fail
                  go_end0
                  exact ⟨⟨_, rfl⟩, BelowX.trans' HX.out HK.out.below⟩
theorem over_fn (n : Node) (o : Out) : FnW Tryz.prog 17 [dNode.can n, dOut.can o] .any := by
 refine ⟨fnB Tryz.func17 (by decide) rfl, fun w E vals hm hd => ?_⟩
 obtain ⟨v, u, rfl, ⟨xs, rfl, hv⟩, ⟨ys, rfl, hu⟩⟩ := two_arg hd
 refine (over_any xs ys n o w (E.set [0]) (fun b ⟨i, _, hs⟩ => (hm.lab i b hs).1) (Node.svs_rd hv) (Out.svs_rd hu)).mono ?_
 rintro e w' ⟨v, rfl, hb⟩
 exact ⟨v, rfl, fun _ _ => trivial, hb.os, hb.tape, hb.output, hb.size, fun b h1 h2 => hb.block b h1 fun h3 => h2 (Env.set_lab h3)⟩
def wOver : WEnt := went2 17 dNode dOut fun n o => ([], .any)
theorem wOver_ok : WEntOk Tryz.prog wOver := went2_ok (fnB Tryz.func17 (by decide) rfl) fun n o _ => over_fn n o
end Go.Proofs.YteabcgkjbnecaaaGreat
namespace Go.Proofs.YteabcgkjbnecaaaGreat
open Go.RowKit Go.ChangeShapes Go.WideShapes Go.Deep
set_option linter.unusedVariables false
set_option linter.unusedSimpArgs false
abbrev D3t : List BE := [.dead, .dead, .dead]
theorem mD3t (t : Nat) : mOf D3t t = if t < 3 then .dead else .empty := by
 match t with
 | 0 => rfl
 | 1 => rfl
 | 2 => rfl
 | t + 3 => rw [mOf_get, if_neg (by omega)]; simp [List.getD]
def cxT (E : Env) : Cx := ⟨fun b => E.σ 1 b ∨ E.σ 2 b, 1, fun i b => E.σ i b, fun _ => none⟩
def FnT (P : Program) (f : FuncId) (ins : List SV) (r : SV) : Prop :=
 FnB P f ∧ ∀ (w : World) (E : Env) (vals : List Value), MemOk w.heap.size (cxT E) w E (mOf D3t) w → DenL E w ins vals → Calls P f vals.toArray w (fun e w' => ∃ v, e = .returned v ∧ (∀ E2 w2, DenV E2 w2 r v) ∧ BelowX w.heap.size (fun b => E.σ 1 b ∨ E.σ 2 b) w w')
theorem FnT.of_vc {P : Program} {C : Cfg} {more : Nat → St → TypeId → Op → Option Upd} (hF : World.Fits P C more) {f : FuncId} {fn : Func} (hf : P.funcs[f]? = some fn) (hb : fn.body = some (bodyOf fn)) (hname : fn.name ≠ "runtime.NumGoroutine") {ins : List SV} (hins : Nat.ble ins.length fn.ntmps = true) (n : Nat) {r0 : SV}
    {p : (List PE → Prop) → Prop} (he : vc P ⟨fn, 1, 3, r0, D3t⟩ (fun _ _ => False) (exec P C more n (bodyOf fn) [] (st0 ins D3t fn.ntmps) ⟨[], []⟩) = p (fun r => vc P ⟨fn, 1, 3, r0, D3t⟩ (fun _ _ => False) ((exec P C more n (bodyOf fn) [] (st0 ins D3t fn.ntmps) ⟨[], []⟩).at r)))
    (h0 : p (fun r => vc P ⟨fn, 1, 3, r0, D3t⟩ (fun _ _ => False) ((exec P C more n (bodyOf fn) [] (st0 ins D3t fn.ntmps) ⟨[], []⟩).at r))) : r0.gnd = true → FnT P f ins r0 := by
  intro hgnd
  have h := h0
  rw [← he] at h
  clear he h0
  refine ⟨⟨fn, hf, hname, by rw [hb]; rfl⟩, fun w E vals hm hd => ?_⟩
  have hX : Fit (cxT E) ⟨fn, 1, 3, r0, D3t⟩ := ⟨rfl, fun t v hv => by cases hv⟩
  have hden := vc_den (base := w.heap.size) (X := cxT E) (w0 := w) hX (J := fun _ _ _ => False) (fun _ _ h => h.elim) _ h
  have hlen : vals.length = ins.length := hd.len
  have hle : ins.length ≤ fn.ntmps := Nat.le_of_ble_eq_true hins
  refine Calls.mono (calls_of_wp hf hb ((exec_ok hF.mixed hF.orc hF.loc hF.moreOk hF.moreLoc hF.wr n).1 (bodyOf fn) [] _ _ _ hden E _ w ⟨rfl, ?_, fun i => ?_, hm⟩)) (fun e w' ⟨v, E', e1, hdv, hm'⟩ => ⟨v, e1, fun _ _ => SV.gnd_den hgnd hdv, hm'.below⟩)
  · simp [st0, hlen]; omega
  · have e : (vals.toArray ++ Array.replicate (fn.ntmps - vals.toArray.size) undef).getD i undef = (vals ++ List.replicate (fn.ntmps - ins.length) undef).getD i undef := by
      simp only [Array.getD_eq_getD_getElem?, List.getD, ← hlen]
      rw [← Array.getElem?_toList]
      simp
    rw [e]
    show DenV E w (lookA .any (asc 0 ins) i) _
    rw [asc_look, if_neg (by omega), Nat.sub_zero]
    by_cases hi : i < ins.length
    · have := hd.at i hi
      have e2 : (vals ++ List.replicate (fn.ntmps - ins.length) undef).getD i undef = vals.getD i undef := by
        simp only [List.getD]
        rw [List.getElem?_append_left (by omega)]
      rw [e2]; exact this
    · rw [show ins.getD i SV.any = .any by simp [List.getD, Nat.le_of_not_lt hi]]; trivial
structure TEnt where
 f : FuncId
 al : List Nat
 go : List SV → Option (List Prop × SV)
def TEntOk (P : Program) (e : TEnt) : Prop := FnB P e.f ∧ ∀ ins n r, e.go ins = some (n, r) → (∀ p ∈ n, p) → FnT P e.f ins r
def findT : List TEnt → FuncId → Option TEnt
 | [], _ => none
 | e :: r, f => bif Nat.beq e.f f then some e else findT r f
theorem findT_mem : ∀ {tab : List TEnt} {f : FuncId} {e : TEnt}, findT tab f = some e → e ∈ tab ∧ e.f = f
  | [], _, _, h => by simp [findT] at h
  | a :: r, f, e, h => by
    simp only [findT] at h
    cases hb : Nat.beq a.f f
    · rw [hb] at h
      obtain ⟨h1, h2⟩ := findT_mem (tab := r) h
      exact ⟨List.mem_cons_of_mem _ h1, h2⟩
    · rw [hb] at h
      simp only [cond_true, Option.some.injEq] at h
      subst h
      exact ⟨List.mem_cons_self .., Nat.eq_of_beq_eq_true hb⟩
def clT (m : Nat → BE) (al : List Nat) (svs : List SV) : Cl := ⟨⟨m, []⟩, al, [], 3, svs⟩
def Cl.okT (q : Cl) : Bool := fnP q.LP && q.LP.all (fun p => Nat.blt p.1 3) && q.OP.isEmpty
def orwU (wtab : List WEnt) (tab : List TEnt) (f : FuncId) (st : St) (svs : List SV) : Option (List Prop × List Nat × SV) :=
  match findT tab f with
  | none => orwT wtab f st svs
  | some e => if (clT st.m e.al svs).okT then (match e.go (clT st.m e.al svs).ins with
    | some (n, r) => some ((clT st.m e.al svs).needs ++ n, ((clT st.m e.al svs).LP.filter fun p => Nat.ble 1 p.1).map (·.2), r)
    | none => none) else none
theorem orwU_ok {P : Program} {wtab : List WEnt} {tab : List TEnt} (hw : ∀ e ∈ wtab, WEntOk P e) (ht : ∀ e ∈ tab, TEntOk P e) (kd : TypeId → Option RL) (oc : Nat → FuncId → St → List SV → Option Upd) : WOk P ⟨kd, oc, orwU wtab tab⟩ := by
  intro f st svs n ls r h
  have h2 : orwU wtab tab f st svs = some (n, ls, r) := h
  clear h
  unfold orwU at h2
  split at h2
  case h_1 => exact orwT_ok hw kd oc f st svs n ls r h2
  rename_i e he
  obtain ⟨hin, rfl⟩ := findT_mem he
  obtain ⟨hB, hE⟩ := ht e hin
  refine ⟨hB, fun base X w0 E w vals hm hd hn => ?_⟩
  split at h2
  case isFalse => simp at h2
  rename_i hck
  simp only [Cl.okT, Bool.and_eq_true] at hck
  obtain ⟨⟨hfn, hlt⟩, hop⟩ := hck
  split at h2
  case h_2 => simp at h2
  rename_i n2 r2 hgo
  simp only [Option.some.injEq, Prod.mk.injEq] at h2
  obtain ⟨rfl, rfl, rfl⟩ := h2
  obtain ⟨q, hq⟩ : ∃ q, clT st.m e.al svs = q := ⟨_, rfl⟩
  have hqm : q.V.m = st.m := by rw [← hq]; rfl
  have hqT : q.V.T = [] := by rw [← hq]; rfl
  have hqs : q.svs = svs := by rw [← hq]; rfl
  have hqa : q.al = e.al := by rw [← hq]; rfl
  rw [hq] at hfn hlt hop hgo hn
  have hOP : q.OP = [] := List.isEmpty_iff.1 hop
  have hm' : MemOk base X w0 E q.V.m w := by rw [hqm]; exact hm
  have hσ : ∀ i b, (q.env E).σ i b → ∃ j, (i, j) ∈ q.LP ∧ E.σ j b := fun i b hi => by
    rcases hi with h | ⟨t, ht, _⟩
    · exact h
    · rw [hOP] at ht; cases ht
  have hl3 : ∀ i b, (q.env E).σ i b → i < 3 := fun i b hi => by
    obtain ⟨j, hj, _⟩ := hσ i b hi
    have := List.all_eq_true.1 hlt _ hj
    simp [Nat.blt] at this; omega
  have hno : ∀ {E : Env} {t b : Nat}, ¬ Has E (mOf D3t) t b := fun {E t b} hh => by
    have := hh.1
    rw [mD3t] at this
    split at this <;> cases this
  have hl : ∀ t, (mOf D3t t).live = false := by intro t; rw [mD3t]; split <;> rfl
  have hmT : MemOk w.heap.size (cxT (q.env E)) w (q.env E) (mOf D3t) w := by
    refine ⟨fun t ht => ⟨?_, fun b hb => ?_⟩, fun t T vs ht => ?_, fun t T ls r ht => ?_, fun i b hb => ⟨?_, fun h1 => ?_⟩, fun i j b hi hj => ?_, fun i hi => ?_, fun t b hh => absurd hh hno, fun i b hi hb => hb, fun t u b h1 => absurd h1 hno, fun t v hv => (by cases hv), BelowX.refl _ _ _, Nat.le_refl _⟩
    · match t with
      | 0 => rfl
      | 1 => rfl
      | t + 2 =>
        show (match q.V.T[t]? with | some u => E.β u | none => none) = none
        rw [hqT]; rfl
    · have := hl3 t b hb
      rw [mD3t, if_pos this] at ht; cases ht
    · have := hl t; rw [ht] at this; cases this
    · have := hl t; rw [ht] at this; cases this
    · obtain ⟨j, _, hj⟩ := hσ i b hb
      exact (hm.lab j b hj).1
    · have h3 := hl3 i b hb
      have h12 : i = 1 ∨ i = 2 := by
        have : 1 ≤ i := h1
        omega
      exact .inr (by rcases h12 with rfl | rfl; exact .inl hb; exact .inr hb)
    · obtain ⟨i', hi1, hi2⟩ := hσ i b hi
      obtain ⟨j', hj1, hj2⟩ := hσ j b hj
      have := hm.dis _ _ b hi2 hj2
      subst this
      exact fnP_ok hfn hi1 hj1
    · have : i = 0 := by
        have : i < 1 := hi
        omega
      subst this
      rw [mD3t]; simp
  have hda : DenL (q.env E) w q.ins vals := by
    have := Cl.denA (q := q) hm' svs e.al vals (fun p hp => by rw [Cl.LP, hqs, hqa]; exact List.mem_append_left _ hp) (fun p hp => by rw [Cl.OP, hqs, hqa]; exact List.mem_append_left _ hp) hd (fun p hp => hn p (List.mem_append_left _ (List.mem_append_left _ (by rw [Cl.aV, hqs, hqa]; exact hp))))
    rw [Cl.ins, Cl.aV, hqs, hqa]; exact this
  refine Calls.mono ((hE _ _ _ hgo (fun p hp => hn p (List.mem_append_right _ hp))).2 w _ vals hmT hda) ?_
  rintro e' w' ⟨v, rfl, hrr, hBl⟩
  refine ⟨v, rfl, hrr, hBl.os, hBl.tape, hBl.output, hBl.size, fun b hb hns => hBl.block b hb (fun h => hns ?_)⟩
  rw [hq]
  rcases h with h | h
  all_goals
    obtain ⟨j, hj, hs⟩ := hσ _ _ h
    exact ⟨j, List.mem_map.2 ⟨_, List.mem_filter.2 ⟨hj, rfl⟩, rfl⟩, hs⟩
theorem ttab_nil {P : Program} : ∀ e ∈ ([] : List TEnt), TEntOk P e := fun _ h => by cases h
theorem ttab_cons {P : Program} {e : TEnt} {tab : List TEnt} (h : TEntOk P e) (ht : ∀ e ∈ tab, TEntOk P e) : ∀ x ∈ e :: tab, TEntOk P x := by
 intro x hx
 rcases List.mem_cons.1 hx with rfl | hx
 ·exact h
 ·exact ht x hx
theorem fitsU {tab : List Ent} {wtab : List WEnt} {ttab : List TEnt} (h : ∀ e ∈ tab, EntOk Tryz.prog e) (hw : ∀ e ∈ wtab, WEntOk Tryz.prog e) (ht : ∀ e ∈ ttab, TEntOk Tryz.prog e) (kd : TypeId → Option RL) : World.Fits Tryz.prog ⟨kd, orcT tab, orwU wtab ttab⟩ (moreA Tryz.prog) := ⟨by kernel_rfl, orcT_ok h kd _, orcT_loc tab kd _, moreA_ok _, moreA_loc _, orwU_ok hw ht kd _⟩
end Go.Proofs.YteabcgkjbnecaaaGreat
namespace Go.Proofs.YteabcgkjbnecaaaGreat
open Go.RowKit Go.ChangeShapes Go.WideShapes Go.Deep
set_option linter.unusedVariables false
set_option linter.unusedSimpArgs false
set_option maxRecDepth 100000
def dNode1 : DecL Node := dNode.lab 1 (fun x => x.svs [1]) fun x E w v ⟨xs, hv, hl⟩ => ⟨xs, hv, Node.svs_of (RdL.mono (fun b _ hb => Env.sh_set hb) (Node.svs_rd hl))⟩
def dOut2 : DecL Out := dOut.lab 2 (fun x => x.svs [2]) fun x E w v ⟨xs, hv, hl⟩ => ⟨xs, hv, Out.svs_of (RdL.mono (fun b _ hb => Env.sh_set hb) (Out.svs_rd hl))⟩
def toldB (x : Node) (o : Out) (e : Int) (y : Node) (p : Out) (f : Int) (n m : Node) : Bool := e == f && decide (x = y) && decide (o = p) && decide (n = m)
def tabOt : List Ent := [eKNodes, eLOuts]
theorem tabOt_ok : ∀ e ∈ tabOt, EntOk Tryz.prog e := tab_cons eKNodes_ok (tab_cons eLOuts_ok tab_nil)
theorem told_fn (x : Node) (o : Out) (e : Int) (y : Node) (p : Out) (f : Int) (n m : Node) : FnT Tryz.prog 27 [dNode1.can x, dOut2.can o, dInt.L.can e, dNode.L.can y, dOut.L.can p, dInt.L.can f, dNode.L.can n, dNode.L.can m] (.bool (toldB x o e y p f n m)) := by
 refine FnT.of_vc (fitsW tabOt_ok (wtab_cons wOver_ok wtab_nil) fun _ => none) Tryz.func27 rfl (by decide) rfl 300 (p := fun (V : List PE → Prop) => let v0 := pickB (e == f) (decide (x = y)) false; let v1 := pickB v0 (decide (o = p)) false; let v2 := pickB v1 (decide (o = p)) false; True ∧ True ∧ True ∧ True ∧ true = true ∧ True ∧ True ∧ true = true ∧ (((e == f) = true → (e == f) = true) ∧ (v0 = true → v0 = true) ∧ (v1 = true → v1 = true) ∧ (v2 = true → v2 = true) ∧ (v2 = true → v2 = true) ∧ (v2 = true → v2 = true) ∧ True) ∧ pickB v2 (decide (n = m)) false = toldB x o e y p f n m ∧ True) (by kernel_rfl) ?_ rfl
 simp only [imp_self, implies_true, true_and, and_true, pickB_f, pickB_t]
 unfold toldB
 by_cases h : o = p <;> simp [h]
def goT8 (ins : List SV) : Option (List Prop × SV) := match ins with
  | [a, b, c, d, e, f, g, h] => match dNode1.dec a, dOut2.dec b, dInt.L.dec c, dNode.L.dec d with
    | some x, some o, some e1, some y => match dOut.L.dec e, dInt.L.dec f, dNode.L.dec g, dNode.L.dec h with
      | some p, some f1, some n, some m => some ([], .bool (toldB x o e1 y p f1 n m))
      | _, _, _, _ => none
    | _, _, _, _ => none
  | _ => none
def tTold : TEnt := ⟨27, [1, 2, 0, 0, 0, 0, 0, 0], goT8⟩
theorem tTold_ok : TEntOk Tryz.prog tTold := by
  refine ⟨fnB Tryz.func27 (by decide) rfl, fun ins n r hg hn => ?_⟩
  change goT8 ins = some (n, r) at hg
  unfold goT8 at hg
  split at hg
  case h_2 => simp at hg
  rename_i a b c d e f g h
  split at hg
  case h_2 => simp at hg
  rename_i x o e1 y q1 q2 q3 q4
  split at hg
  case h_2 => simp at hg
  rename_i p f1 n1 m q5 q6 q7 q8
  simp only [Option.some.injEq, Prod.mk.injEq] at hg
  obtain ⟨rfl, rfl⟩ := hg
  refine ⟨fnB Tryz.func27 (by decide) rfl, fun w E vals hm hd => ?_⟩
  match vals, hd with
  | [v1, v2, v3, v4, v5, v6, v7, v8], ⟨h1, h2, h3, h4, h5, h6, h7, h8, _⟩ =>
    exact (told_fn x o e1 y p f1 n1 m).2 w E _ hm ⟨dNode1.ok _ _ q1 _ _ _ h1, dOut2.ok _ _ q2 _ _ _ h2, dInt.L.ok _ _ q3 _ _ _ h3, dNode.L.ok _ _ q4 _ _ _ h4, dOut.L.ok _ _ q5 _ _ _ h5, dInt.L.ok _ _ q6 _ _ _ h6, dNode.L.ok _ _ q7 _ _ _ h7, dNode.L.ok _ _ q8 _ _ _ h8, trivial⟩
theorem cntE_le {e : Entry} : ∀ {l : List Entry}, e ∈ l → cntE e ≤ cntL l
  | x :: l, h => by
    rcases List.mem_cons.1 h with rfl | h
    · simp only [cntL]; omega
    · have := cntE_le (l := l) h
      simp only [cntL]; omega
theorem few_of {n : Node} {m : Message} (h : largeN n m = false) : Few 5000 (stepZ n) := by
 unfold largeN baseL at h
 simp only [decide_eq_false_iff_not] at h
 refine ⟨by show n.kept.entries.length ≤ _; omega, fun e he => ?_, ⟨by show n.kept.snap.config.voters.length ≤ _; omega, by show n.kept.snap.config.learners.length ≤ _; omega⟩, by show n.yes.length ≤ _; omega, by show n.peers.length ≤ _; omega, by show n.reads.length ≤ _; omega, Nat.zero_le _, Nat.zero_le _, Nat.zero_le _, Nat.zero_le _⟩
 have he : e ∈ n.kept.entries := he
 have := cntE_le he
 unfold cntE at this
 exact ⟨by omega, by omega⟩
def eLarge : Ent := ent2 12 dNode dMessage fun n m => ([], .bool (largeN n m), D2)
theorem eLarge_ok : EntOk Tryz.prog eLarge := ent2_ok (large_fn default default).1 fun n m _ => large_fn n m
def eWaits : Ent := ent0 20 ([], .bool true, D2)
theorem eWaits_ok : EntOk Tryz.prog eWaits := ent0_ok waits_fn.1 fun _ => waits_fn
theorem den_node {w : World} {vs : List Value} {x : Node} (h : RdL w (fun b => b < w.heap.size) Node.ty vs x.enc) : DenV (E0 fun b => b < w.heap.size) w (.agg (x.svs [0])) (.agg vs.toArray) :=
 ⟨vs, rfl, Node.svs_of (h.mono fun b _ hb => E0_set hb)⟩
end Go.Proofs.YteabcgkjbnecaaaGreat
namespace Go.Proofs.YteabcgkjbnecaaaGreat
open Go.RowKit Go.ChangeShapes Go.WideShapes Go.Deep
set_option linter.unusedVariables false
set_option linter.unusedSimpArgs false
def spX : Code → List Code
 | .seq a .ret => []
 | .seq a b => a :: spX b
 | _ => []
def spT : Code → Code
 | .seq a .ret => .seq a .ret
 | .seq a b => spT b
 | c => c
def spine : List Code → Code → Code
 | [], t => t
 | x :: xs, t => .seq x (spine xs t)
def bindN : Tr → (St → Tr) → Tr
 | .nrm st _, f => f st
 | .ret st, _ => .ret st
 | .need ps t, f => .need ps (bindN t f)
 | .br b x y, f => .br b (bindN x f) (bindN y f)
 | .brp p q x y, f => .brp p q (bindN x f) (bindN y f)
 | .lab ls t, f => .lab ls (bindN t f)
 | .hav r t, f => .hav r fun q => bindN (t q) f
 | .ext _ st, _ => .stuck 3 none st
 | .back _ st, _ => .stuck 4 none st
 | .loop _ _ st, _ => .stuck 5 none st
 | .stuck c o st, _ => .stuck c o st
section
variable {P : Program} {base : Nat} {X : Cx} {w0 : World} {J : Nat → Act → World → Prop} {Q Q' : Exit → Act → World → Prop}
theorem bindN_den {f : St → Tr} (hr : ∀ a w, Q .ret a w → Q' .ret a w) (hf : ∀ st, den P base X w0 J Q (f st) → ∀ E a w, st.Ok base X w0 E a w → Q' .normal a w) : ∀ (t : Tr), den P base X w0 J Q (bindN t f) → den P base X w0 J Q' t
 | .nrm st _, h => hf st h
 | .ret st, h => fun E a w ho => hr a w (h E a w ho)
 | .need ps t, h => ⟨h.1, bindN_den hr hf t h.2⟩
 | .br b x y, h => ⟨fun e => bindN_den hr hf x (h.1 e), fun e => bindN_den hr hf y (h.2 e)⟩
 | .brp p q x y, h => ⟨fun e => bindN_den hr hf x (h.1 e), fun e => bindN_den hr hf y (h.2 e)⟩
 | .lab ls t, h => ⟨h.1, bindN_den hr hf t h.2⟩
 | .hav r t, h => RL.All_mono h fun q hq => bindN_den hr hf (t q) hq
 | .ext _ st, h => h.elim
 | .back _ st, h => h.elim
 | .loop _ _ st, h => h.elim
 | .stuck _ _ _, h => h.elim
theorem qOf_codes {tail : Act → World → Prop} : ∀ (xs : List Code) (e : Exit) (a : Act) (w : World), e ≠ .normal → qOf P J (xs.map .code) (Exit.then tail Q) e a w → Q e a w
 | [], e, a, w, hne, h => by cases e <;> first | exact absurd rfl hne | exact h
 | x :: xs, e, a, w, hne, h => qOf_codes xs e a w hne (by cases e <;> first | exact absurd rfl hne | exact h)
theorem spine_wp {t : Code} : ∀ (xs : List Code) (x : Code) (a : Act) (w : World), x.wp P (qOf P J (xs.map .code) (Exit.then (t.wp P Q) Q)) a w → (spine (x :: xs) t).wp P Q a w
  | [], x, a, w, h => wp_seq h
  | y :: ys, x, a, w, h => by
    refine wp_seq (Code.wp_mono (fun e a2 w2 hq => ?_) h)
    have hne : e ≠ .normal → (Exit.then ((spine (y :: ys) t).wp P Q) Q) e a2 w2 := fun hne => by
      have := qOf_codes (y :: ys) e a2 w2 hne hq
      cases e <;> first | exact absurd rfl hne | exact this
    by_cases hn : e = .normal
    · subst hn
      exact spine_wp ys y a2 w2 hq
    · exact hne hn
end
def cutF (tf : FuncId) : List Oper → Option (List Oper × Oper × List Oper)
  | [] => none
  | o :: r => match o.op with
    | .call ⟨.value (.func f), _, _⟩ => bif Nat.beq f tf then some ([], o, r) else (match cutF tf r with
      | some (a, b, c) => some (o :: a, b, c)
      | none => none)
    | _ => match cutF tf r with
      | some (a, b, c) => some (o :: a, b, c)
      | none => none
theorem cutF_ok {tf : FuncId} : ∀ {l a : List Oper} {b : Oper} {c : List Oper}, cutF tf l = some (a, b, c) → l = a ++ b :: c
  | [], _, _, _, h => by cases h
  | o :: r, a, b, c, h => by
    have tl : ∀ {x : Option (List Oper × Oper × List Oper)}, x = cutF tf r → (match x with | some (a, b, c) => some (o :: a, b, c) | none => none) = some (a, b, c) → o :: r = a ++ b :: c := by
      intro x hx h
      split at h
      · rename_i a' b' c'
        simp only [Option.some.injEq, Prod.mk.injEq] at h
        obtain ⟨rfl, rfl, rfl⟩ := h
        rw [cutF_ok hx.symm]; rfl
      · cases h
    unfold cutF at h
    split at h
    · rename_i f xs ts hop
      cases hb : Nat.beq f tf
      · rw [hb] at h
        exact tl rfl h
      · rw [hb] at h
        simp only [cond_true, Option.some.injEq, Prod.mk.injEq] at h
        obtain ⟨rfl, rfl, rfl⟩ := h
        rfl
    · exact tl rfl h
def cWrG (C : Cfg) (ops : Array Oper) (st : St) (o : Oper) : Option (List Prop × List Nat × SV) :=
  match o.op, (match o.guard with | none => some true | some (j, pol) => guardB ops st j pol) with
  | .call ⟨.value (.func f), xs, ts⟩, some true => match C.orw f st ((evL st xs.toList).1.map fun s => (strip s).1) with
    | some (n, ls, r) => some ((evL st xs.toList).2 ++ (evL st xs.toList).1.flatMap (fun s => (strip s).2) ++ n, ls, r)
    | none => none
  | _, _ => none
theorem stripL_ok {E : Env} {w : World} : ∀ (ss : List SV) (vs : List Value), (∀ p ∈ ss.flatMap (fun s => (strip s).2), p) → DenL E w ss vs → DenL E w (ss.map fun s => (strip s).1) vs
 | [], [], _, _ => trivial
 | s :: ss, v :: vs, hn, hd => ⟨strip_ok hd.1 (fun p hp => hn p (List.mem_append_left _ hp)), stripL_ok ss vs (fun p hp => hn p (List.mem_append_right _ hp)) hd.2⟩
 | [], _ :: _, _, hd => hd.elim
 | _ :: _, [], _, hd => hd.elim
section
variable {P : Program} {base : Nat} {X : Cx} {w0 : World} {E : Env} {a : Act} {w : World}
theorem cWrG_ok {C : Cfg} (hW : WOk P C) {st : St} {o : Oper} {ops : Array Oper} {ns : List Prop} {ls : List Nat} {r : SV} (h : cWrG C ops st o = some (ns, ls, r)) (hn : ∀ p ∈ ns, p) (hnl : ∀ i, i ∈ ls → X.nl ≤ i) {Q2 : Exit → Act → World → Prop} {rest : List Oper}
    (ho : st.Ok base X w0 E a w) (hk : ∀ a' w', (wrSt ls o.dst r st).Ok base X w0 E a' w' → wpList P ops Q2 rest a' w') : wpList P ops Q2 (o :: rest) a w := by
  unfold cWrG at h
  split at h
  case h_2 => simp at h
  rename_i f xs ts hop hgd
  split at h
  case h_2 => simp at h
  rename_i n ls2 r2 hc
  simp only [Option.some.injEq, Prod.mk.injEq] at h
  obtain ⟨rfl, rfl, rfl⟩ := h
  obtain ⟨hf, hcall⟩ := hW _ _ _ _ _ _ hc
  have hd := evL_ok ho xs.toList (fun p hp => hn p (List.mem_append_left _ (List.mem_append_left _ hp)))
  have hd2 := stripL_ok _ _ (fun p hp => hn p (List.mem_append_left _ (List.mem_append_right _ hp))) hd
  have hwant : Region.wanted o (yielded ops a.tmps) = true := by
    cases hg : o.guard with
    | none => simp only [Region.wanted, hg]
    | some jp =>
      obtain ⟨j, pol⟩ := jp
      rw [hg] at hgd
      exact guardB_ok ho hg hgd
  refine wpList_step fun K hK => ?_
  rw [if_pos hwant]
  have hrun : (execOp a.eval o).run P w = .ok (.enter f (xs.toList.map a.eval).toArray) w := by
    have e : xs.map a.eval = (xs.toList.map a.eval).toArray := by rw [← Array.toList_map]
    simp only [execOp, hop, resolve, Act.eval, Deferred.ofValue, Sem.run_bind, Sem.run_pure, Result.andThen, invoke, e]
    simp [run_callFunc hf]
  unfold Oper.wp
  rw [hrun]
  refine Calls.mono (hcall base X w0 E w _ ho.mem hd2 (fun p hp => hn p (List.mem_append_right _ hp))) ?_
  rintro e w' ⟨v, rfl, hr, hB⟩
  obtain ⟨k1, k2⟩ := ho.mem.wcut hnl hB
  refine hK _ _ (hk _ _ ?_)
  have hst : (St.mk (hvTm ls2 st.tm) st.nt (cutMm ls2 st.mm) st.nx).Ok base X w0 E a w' := by
    refine ⟨ho.defers, ho.size, fun i => ?_, ?_⟩
    · show DenV E _ (lookA .any (hvTm ls2 st.tm) i) _
      rw [hvTm_look]
      have hi := ho.tm i
      show DenV E _ (hvS ls2 (st.s i)) _
      unfold hvS
      cases hcl : SV.cl ls2 (st.s i)
      · trivial
      · exact k1 _ _ hcl hi
    · have e : (St.mk (hvTm ls2 st.tm) st.nt (cutMm ls2 st.mm) st.nx).m = fun t => cutE ls2 (st.m t) := by
        funext t; exact cutMm_look ls2 st.mm t
      rw [e]; exact k2
  exact hst.next (u := ⟨[], r2, []⟩) (Env.Le.refl E) Same.rfl' (v := v) (hr _ _) hst.mem
def tailT (P : Program) (C : Cfg) (more : Nat → St → TypeId → Op → Option Upd) (tf : FuncId) (t : Code) (st : St) : Tr :=
  match t with
  | .seq (.region id ops false) .ret => match cutF tf ops.toList with
    | some (l1, o1, l2) => match runU P C more ops st.nx l1 (st.grow (widS ops.toList)) with
      | .ok us rs st2 => match cWrG C ops st2 o1 with
        | some (ns, ls, r) => match runU P C more ops (st.nx + widS l1 + 24) l2 (wrSt ls o1.dst r st2) with
          | .ok us2 rs2 st3 => .need (us.flatMap (fun x => x.2.needs) ++ ns) (.lab ls (.need (us2.flatMap (fun x => x.2.needs)) (.ret st3)))
          | .bad c o s => .stuck c (some o) s
        | none => .stuck 6 (some o1.op) st2
      | .bad c o s => .stuck c (some o) s
    | none => .stuck 7 none st
  | _ => .stuck 8 none st
theorem tailT_ok {C : Cfg} {more : Nat → St → TypeId → Op → Option Upd} (hC : OrcOk P C) (hM : MoreOk P more) (hW : WOk P C) {J : Nat → Act → World → Prop} {Q : Exit → Act → World → Prop} {tf : FuncId} {t : Code} {st : St} (h : den P base X w0 J Q (tailT P C more tf t st)) (ho : st.Ok base X w0 E a w) : t.wp P Q a w := by
 unfold tailT at h
 split at h
 case h_2 => exact h.elim
 rename_i id ops
 split at h
 case h_2 => exact h.elim
 rename_i l1 o1 l2 hcut
 split at h
 case h_2 => exact h.elim
 rename_i us rs st2 hr1
 split at h
 case h_2 => exact h.elim
 rename_i ns ls r hcw
 split at h
 case h_2 => exact h.elim
 rename_i us2 rs2 st3 hr2
 obtain ⟨hn, hnl, hn2, hret⟩ := h
 refine wp_seq (wp_region_list ?_)
 rw [cutF_ok hcut]
 refine runOps_app hC hM _ _ _ _ _ (runU_ops _ _ _ _ _ _ hr1) (fun p hp => hn p (List.mem_append_left _ hp)) (fun E' a' w' h' => ?_) E a w (ho.grow _)
 refine cWrG_ok hW hcw (fun p hp => hn p (List.mem_append_right _ hp)) hnl h' (fun a2 w2 hOk => ?_)
 exact runOps_ok hC hM _ _ _ _ _ (runU_ops _ _ _ _ _ _ hr2) hn2 (fun E3 a3 w3 h3 => wp_ret (hret E3 a3 w3 h3)) _ _ _ hOk
end
def tailX (P : Program) (C : Cfg) (more : Nat → St → TypeId → Op → Option Upd) (n : Nat) (tf : FuncId) (c : Code) (st : St) : Tr :=
 match spX c with
 | [] => .stuck 9 none st
 | x :: xs => bindN (exec P C more n x (xs.map .code) st ⟨[], []⟩) (tailT P C more tf (spT c))
theorem FnG.of_vc_tail {P : Program} {C : Cfg} {more : Nat → St → TypeId → Op → Option Upd} (hF : World.Fits P C more) {f : FuncId} {fn : Func} (hf : P.funcs[f]? = some fn) (hb : fn.body = some (bodyOf fn)) (hname : fn.name ≠ "runtime.NumGoroutine") (hs : spine (spX (bodyOf fn)) (spT (bodyOf fn)) = bodyOf fn) {nl : Nat} {mi : List BE} {ins : List SV} {out : SV} {mo : List BE} (hins : Nat.ble ins.length fn.ntmps = true) (n : Nat) (tf : FuncId)
    {p : (List PE → Prop) → Prop} (he : vc P ⟨fn, nl, mi.length, out, mo⟩ (fun _ _ => False) (tailX P C more n tf (bodyOf fn) (st0 ins mi fn.ntmps)) = p (fun r => vc P ⟨fn, nl, mi.length, out, mo⟩ (fun _ _ => False) ((tailX P C more n tf (bodyOf fn) (st0 ins mi fn.ntmps)).at r)))
    (h0 : p (fun r => vc P ⟨fn, nl, mi.length, out, mo⟩ (fun _ _ => False) ((tailX P C more n tf (bodyOf fn) (st0 ins mi fn.ntmps)).at r))) : FnG P f nl mi ins out mo := by
  have h := h0
  rw [← he] at h
  clear he h0
  refine ⟨⟨fn, hf, hname, by rw [hb]; rfl⟩, fun w E vals hm hd => ?_⟩
  refine calls_of_wp hf hb ?_
  have hX : Fit (cxIn E mi nl) ⟨fn, nl, mi.length, out, mo⟩ := ⟨rfl, fun t v hv => by
    have hv : (if t < mi.length then E.β t else none) = some v := hv
    split at hv
    · assumption
    · cases hv⟩
  have hden := vc_den (base := w.heap.size) (X := cxIn E mi nl) (w0 := w) hX (J := fun _ _ _ => False) (fun _ _ h => h.elim) _ h
  have hlen : vals.length = ins.length := hd.len
  have hle : ins.length ≤ fn.ntmps := Nat.le_of_ble_eq_true hins
  rw [← hs]
  generalize hsx : spX (bodyOf fn) = sx
  generalize hst : spT (bodyOf fn) = stl
  unfold tailX at hden
  rw [hsx, hst] at hden
  cases sx with
  | nil => exact hden.elim
  | cons x xs =>
    obtain ⟨Q, hQ⟩ : ∃ Q, bodyPost P fn (RpO out mo w.heap.size (cxIn E mi nl) w) = Q := ⟨_, rfl⟩
    have hden2 : den P w.heap.size (cxIn E mi nl) w (fun _ _ _ => False) Q (bindN (exec P C more n x (xs.map .code) (st0 ins mi fn.ntmps) ⟨[], []⟩) (tailT P C more tf stl)) := by rw [← hQ]; exact hden
    have hd2 := bindN_den (Q := Q) (Q' := Exit.then (stl.wp P Q) Q) (fun a w h => h) (fun st h E a w ho => tailT_ok hF.orc hF.moreOk hF.wr h ho) _ hden2
    show (spine (x :: xs) stl).wp P (bodyPost P fn (RpO out mo w.heap.size (cxIn E mi nl) w)) _ w
    rw [hQ]
    refine spine_wp (J := fun _ _ _ => False) xs x _ _ ?_
    refine (exec_ok hF.mixed hF.orc hF.loc hF.moreOk hF.moreLoc hF.wr n).1 x (xs.map .code) _ _ _ hd2 E _ w ⟨rfl, ?_, fun i => ?_, hm⟩
    · simp [st0, hlen]; omega
    · have e : (vals.toArray ++ Array.replicate (fn.ntmps - vals.toArray.size) undef).getD i undef = (vals ++ List.replicate (fn.ntmps - ins.length) undef).getD i undef := by
        simp only [Array.getD_eq_getD_getElem?, List.getD, ← hlen]
        rw [← Array.getElem?_toList]
        simp
      rw [e]
      show DenV E w (lookA .any (asc 0 ins) i) _
      rw [asc_look, if_neg (by omega), Nat.sub_zero]
      by_cases hi : i < ins.length
      · have := hd.at i hi
        have e2 : (vals ++ List.replicate (fn.ntmps - ins.length) undef).getD i undef = vals.getD i undef := by
          simp only [List.getD]
          rw [List.getElem?_append_left (by omega)]
        rw [e2]; exact this
      · rw [show ins.getD i SV.any = .any by simp [List.getD, Nat.le_of_not_lt hi]]; trivial
attribute [irreducible] bindN tailT tailX
end Go.Proofs.YteabcgkjbnecaaaGreat
namespace Go.Proofs.YteabcgkjbnecaaaGreat
open Go.RowKit Go.ChangeShapes Go.WideShapes Go.Deep
set_option linter.unusedVariables false
set_option linter.unusedSimpArgs false
set_option maxRecDepth 100000
def eRTick : Ent := ent1 26 dNode fun n => ([Few 50000 (stepZ n)], refO (tickC n).1.n (tickC n).1.o (tickC n).2, D3d)
theorem eRTick_ok : EntOk Tryz.prog eRTick := ent1_ok (fnB Tryz.func26 (by decide) rfl) fun n h => rtickC_fn n (h _ (by simp))
theorem rownF_fn (n : Node) (hn : SmallN n) : FnC Tryz.prog 24 [dNode.can n] (.agg (n.svs [1])) D2 := by
 refine FnG.of_vc (fitsT (tab_cons eROwn_ok tab_nil) fun _ => none) Tryz.func24 rfl (by decide) rfl 300 (p := fun (V : List PE → Prop) => let v0 := Node.yes n; let v1 := Node.reads n; let v2 := Node.peers n; let v3 := Node.kept n; let v4 := Kept.snap v3; let v5 := Kept.term v3; let v6 := Kept.vote v3; let v7 := Kept.entries v3; let v8 := Snap.term v4; let v9 := Snap.index v4; let v10 := Snap.config v4; let v11 := List.length v1; let v12 := List.length v0; let v13 := Snap.data v4; let v14 := List.length v2; let v15 := Config.voters v10; let v16 := Config.learners v10; True ∧ (SmallK v3 ∧ True) ∧ True ∧ (((0 : Nat) + v12) * (1024 : Nat) ≤ (140737488355328 : Nat) ∧ True) ∧ True ∧ True ∧ (((0 : Nat) + v14) * (1024 : Nat) ≤ (140737488355328 : Nat) ∧ True) ∧ True ∧ True ∧ (((0 : Nat) + v11) * (1024 : Nat) ≤ (140737488355328 : Nat) ∧ True) ∧ True ∧ True ∧ Node.id n = Node.id n ∧ Node.role n = Node.role n ∧ v5 = v5 ∧ v6 = v6 ∧ v9 = v9 ∧ v8 = v8 ∧ v15 = v15 ∧ v16 = v16 ∧ v13 = v13 ∧ v7 = v7 ∧ Node.commit n = Node.commit n ∧ Node.lead n = Node.lead n ∧ Node.elapsed n = Node.elapsed n ∧ v0 = v0 ∧ v12 ≤ (17592186044416 : Nat) ∧ v2 = v2 ∧ v14 ≤ (17592186044416 : Nat) ∧ Node.round n = Node.round n ∧ v1 = v1 ∧ v11 ≤ (17592186044416 : Nat) ∧ True) (by kernel_rfl) ?_
 simp only [imp_self, implies_true, true_and, and_true, pickB_f, pickB_t]
 obtain ⟨b1, b2, b3, b4, b5⟩ := hn.ls
 have h1 := hn.yes
 have h2 := hn.peers
 have h3 := hn.reads
 exact ⟨hn.k, by omega, by omega, by omega, by omega, by omega, by omega⟩
def eROwnF : Ent := ent1 24 dNode fun n => ([SmallN n], .agg (n.svs [1]), D2)
theorem eROwnF_ok : EntOk Tryz.prog eROwnF := ent1_ok (fnB Tryz.func24 (by decide) rfl) fun n h => rownF_fn n (h _ (by simp))
noncomputable def tabDt : List Ent := [eLarge, eROwnF, eTick, eRTick, eWaits]
theorem tabDt_ok : ∀ e ∈ tabDt, EntOk Tryz.prog e := tab_cons eLarge_ok (tab_cons eROwnF_ok (tab_cons eTick_ok (tab_cons eRTick_ok (tab_cons eWaits_ok tab_nil))))
def ttabD : List TEnt := [tTold]
theorem ttabD_ok : ∀ e ∈ ttabD, TEntOk Tryz.prog e := ttab_cons tTold_ok ttab_nil
theorem raftTicks_fn (n : Node) : FnC Tryz.prog 4 [dNode.can n] (.bool true) D2 := by
 refine FnG.of_vc_tail (fitsU tabDt_ok wtab_nil ttabD_ok fun _ => none) Tryz.func4 rfl (by decide) (by kernel_rfl) rfl 300 27 (p := fun (V : List PE → Prop) => let v0 := Prod.fst (tickC n); let v1 := (0 : Int); let v2 := Prod.snd (tickC n); let v3 := Step.n v0; let v4 := Step.o v0; let v5 := largeN n (Message.mk v1 v1 v1 v1 v1 v1 [] v1 v1 false (Snap.mk v1 v1 (Config.mk [] []) (ByteArray.mk #[])) v1 v1 (ByteArray.mk #[])); True ∧ True ∧ True ∧ (v5 = true → True ∧ true = true ∧ True) ∧ (v5 = false → (SmallN n ∧ True) ∧ (Few (50000 : Nat) (stepZ n) ∧ True) ∧ (Few (50000 : Nat) (stepZ n) ∧ True) ∧ (true = true ∧ true = true ∧ true = true ∧ true = true ∧ true = true ∧ true = true ∧ true = true ∧ true = true ∧ True) ∧ true = true ∧ True ∧ pickB true (toldB v3 v4 v2 v3 v4 v2 n n) false = true ∧ True)) (by kernel_rfl) ?_
 simp only [imp_self, implies_true, true_and, and_true, pickB_f, pickB_t]
 intro h
 have hf := (few_of h).mono (show 5000 ≤ 50000 by decide)
 refine ⟨hf.sn (by decide), hf, hf, ?_⟩
 simp [toldB]
theorem law_raftTicks (vs : List Value) (n : Node) (w : World) (h : RdL w (fun b => b < w.heap.size) Node.ty vs n.enc) :
  Calls Tryz.prog 4 #[.agg vs.toArray] w fun e w' => e = .returned (.bool true) ∧ Below w.heap.size w w' :=
 law_of_fn (raftTicks_fn n) w (fun b => b < w.heap.size) (fun _ hb => hb) [.agg vs.toArray] ⟨den_node h, trivial⟩
end Go.Proofs.YteabcgkjbnecaaaGreat
namespace Go.Proofs.YteabcgkjbnecaaaGreat
open Go.RowKit Go.ChangeShapes Go.WideShapes Go.Deep
set_option linter.unusedVariables false
def tiles (P : Program) (ts : List Ty) (ok : TypeId → List Ty → Bool) : Nat → List Field → Bool
 | o, [] => o == ts.length
 | o, f :: fs => f.offset == o && ok f.type ((ts.drop o).take (P.cellsOf f.type)) && decide (o + P.cellsOf f.type ≤ ts.length) && tiles P ts ok (o + P.cellsOf f.type) fs
def okTy (P : Program) : Nat → TypeId → List Ty → Bool
  | 0, _, _ => false
  | n + 1, t, ts => match P.underlying t with
    | some (.int k) => match ts with | [.int k'] => decide (k = k') | _ => false
    | some .bool => match ts with | [.bool] => true | _ => false
    | some .string => match ts with | [.str] => true | _ => false
    | some (.slice e) => match ts with | [.sl fs] => okTy P n e fs && P.cellsOf e == fs.length && decide (8 ≤ P.bytesOf e) && decide (0 < fs.length) | _ => false
    | some (.struct fs) => P.cellsOf t == ts.length && tiles P ts (okTy P n) 0 fs.toList
    | _ => false
theorem RdL.append {w : World} {S : Nat → Prop} : ∀ {ts us : List Ty} {vs xs : List Value} {ds es : List D}, RdL w S ts vs ds → RdL w S us xs es → RdL w S (ts ++ us) (vs ++ xs) (ds ++ es)
 | [], _, [], _, [], _, _, h => h
 | _ :: ts, _, _ :: vs, _, _ :: ds, _, h, k => ⟨h.1, RdL.append (ts := ts) (vs := vs) (ds := ds) h.2 k⟩
 | _ :: _, _, [], _, _, _, h, _ => h.elim
 | _ :: _, _, _ :: _, _, [], _, h, _ => h.elim
 | [], _, _ :: _, _, _, _, h, _ => h.elim
 | [], _, [], _, _ :: _, _, h, _ => h.elim
section
variable {H : Type} {enc : TypeId × Value → H} {P : Program} {w : World} {base : Nat} {spare : Nat → Bool} {held : Bool}
def Light (P : Program) (t : TypeId) (d : DataW H) : Prop := ∀ n ∈ d.weights P t, n ≤ reachBytes
theorem tiles_rd (ok : TypeId → List Ty → Bool) (ts : List Ty) (cs : List Value) (hcl : cs.length = ts.length) : ∀ (fs : List Field) (o : Nat), o ≤ ts.length → tiles P ts ok o fs = true →
    (∀ f ∈ fs, ∀ us, ok f.type us = true → ∃ ds, RdL w (fun b => b < w.heap.size) us ((cs.drop f.offset).take (P.cellsOf f.type)) ds) →
    ∃ ds, RdL w (fun b => b < w.heap.size) (ts.drop o) (cs.drop o) ds
  | [], o, ho, h, _ => by
    simp only [tiles, beq_iff_eq] at h
    subst h
    rw [List.drop_length, List.drop_eq_nil_of_le (by omega)]
    exact ⟨[], trivial⟩
  | f :: fs, o, ho, h, hf => by
    simp only [tiles, Bool.and_eq_true, beq_iff_eq, decide_eq_true_eq] at h
    obtain ⟨⟨⟨rfl, h2⟩, h3⟩, h4⟩ := h
    obtain ⟨d1, k1⟩ := hf f (List.mem_cons_self ..) _ h2
    obtain ⟨d2, k2⟩ := tiles_rd ok ts cs hcl fs _ h3 h4 (fun g hg => hf g (List.mem_cons_of_mem _ hg))
    refine ⟨d1 ++ d2, ?_⟩
    have e1 : ts.drop f.offset = (ts.drop f.offset).take (P.cellsOf f.type) ++ ts.drop (f.offset + P.cellsOf f.type) := by
      rw [← List.drop_drop, List.take_append_drop]
    have e2 : cs.drop f.offset = (cs.drop f.offset).take (P.cellsOf f.type) ++ cs.drop (f.offset + P.cellsOf f.type) := by
      rw [← List.drop_drop, List.take_append_drop]
    rw [e1, e2]
    exact RdL.append k1 k2
theorem weights_all {e : TypeId} : ∀ {l : List (DataW H)} {d : DataW H}, d ∈ l → ∀ n ∈ d.weights P e, n ∈ DataW.weightsAll P e l
  | x :: l, d, hd, n, hn => by
    simp only [DataW.weightsAll, List.mem_append]
    rcases List.mem_cons.1 hd with h | h
    · subst h; exact .inl hn
    · exact .inr (weights_all h n hn)
theorem rd_of_trod : ∀ (n : Nat) (t : TypeId) (ts : List Ty) (fuel : Nat) (cs : List Value) (x : DataW H × List MemPlace), okTy P n t ts = true → DataW.trod enc P w base spare held fuel t cs = some x → Light P t x.1 → w.noneFrozen x.2 →
    ∃ ds, RdL w (fun b => b < w.heap.size) ts cs ds
  | 0, _, _, _, _, _, h, _, _, _ => by simp [okTy] at h
  | n + 1, t, ts, fuel, cs, x, h, ht, hw, hz => by
    unfold okTy at h
    split at h
    · rename_i k hu
      split at h
      · rename_i k'
        have hk : k = k' := of_decide_eq_true h
        subst hk
        obtain ⟨m, rfl, _, hm⟩ := DataW.trod_int hu ht
        exact ⟨[.int m], .int hm, trivial⟩
      · cases h
    · rename_i hu
      split at h
      · obtain ⟨b, rfl, _⟩ := DataW.trod_bool hu ht
        exact ⟨[.bool b], .bool, trivial⟩
      · cases h
    · rename_i hu
      split at h
      · obtain ⟨s, rfl, rfl, _⟩ := DataW.trod_string hu ht
        have := hw s.data.toList.length (by simp [DataW.weights])
        refine ⟨[.str s], .str ?_, trivial⟩
        have e : s.data.toList.length = s.size := by rw [Array.length_toList]; rfl
        rw [e] at this
        unfold reachBytes at this
        omega
      · cases h
    · rename_i e hu
      split at h
      · rename_i fs
        simp only [Bool.and_eq_true, beq_iff_eq, decide_eq_true_eq] at h
        obtain ⟨⟨⟨h1, h2⟩, h3⟩, h4⟩ := h
        rcases open_slice hu ht with ⟨rfl, _⟩ | ⟨a, len, cap, m, n', Dd, Pl, rfl, hb, hl, hm, hmm, hx, hi⟩
        · exact ⟨[.sl []], .emp (fun _ => rfl) (by simp [maxLen]), trivial⟩
        · have hlm : len ≤ m := by rw [hmm]; split <;> omega
          have hx1 : x.1 = .slice ((List.range len).map Dd) ((List.range (m - len)).map fun j => Dd (len + j)) := by rw [hx]
          have hbd : len * 8 ≤ reachBytes := by
            have := hw ((((List.range len).map Dd).length + ((List.range (m - len)).map fun j => Dd (len + j)).length) * P.bytesOf e) (by rw [hx1]; simp [DataW.weights, hu])
            simp only [List.length_map, List.length_range] at this
            exact Nat.le_trans (Nat.mul_le_mul (by omega) h3) this
          have each : ∀ i, i < len → ∃ cs' ds, w.cells? base (a.add (i * P.cellsOf e)) (P.cellsOf e) = some cs' ∧ RdL w (fun b => b < w.heap.size) fs cs' ds := by
            intro i hi'
            obtain ⟨cs', hc, htt⟩ := hi i (by omega)
            obtain ⟨ds, hd⟩ := rd_of_trod n e fs n' cs' _ h1 htt (fun q hq => hw q (by
              rw [hx1]
              simp only [DataW.weights, hu, List.mem_cons, List.mem_append]
              exact .inr (.inl (weights_all (List.mem_map.2 ⟨i, List.mem_range.2 hi', rfl⟩) q hq)))) (fun b off hp => hz b off (by
              rw [hx]
              exact List.mem_append.2 (.inr (List.mem_flatMap.2 ⟨i, List.mem_range.2 (by omega), hp⟩))))
            exact ⟨cs', ds, hc, hd⟩
          by_cases hp : 0 < len
          · let C : Nat → List Value := fun i => if hh : i < len then Classical.choose (each i hh) else []
            let DD : Nat → List D := fun i => if hh : i < len then Classical.choose (Classical.choose_spec (each i hh)) else []
            have hC : ∀ i, i < len → w.cells? base (a.add (i * P.cellsOf e)) (P.cellsOf e) = some (C i) ∧ RdL w (fun b => b < w.heap.size) fs (C i) (DD i) := by
              intro i hh
              simp only [C, DD, hh, dif_pos]
              exact Classical.choose_spec (Classical.choose_spec (each i hh))
            have hcell : ∀ i j, i < len → j < fs.length → w.cell? ((a.add (i * fs.length)).add j) = some ((C i).getD j undef) := by
              intro i j hi' hj
              obtain ⟨c1, c2⟩ := hC i hi'
              rw [h2] at c1
              obtain ⟨_, hcl, hat⟩ := World.cells?_some c1
              rw [hat j hj]
              simp [List.getD, List.getElem?_eq_getElem (show j < (C i).length by omega)]
            have h00 := hcell 0 0 hp h4
            obtain ⟨b, off, spot⟩ := a
            have hspot : spot = none := by simpa [Addr.add] using World.cell?_spot h00
            subst hspot
            have hblk : b < w.heap.size := by
              have := World.block_lt_of_cell? _ _ h00
              simpa [Addr.add] using this
            refine ⟨[.sl ((List.range len).map DD)], .row (fun i j => (C i).getD j undef) hp (by simp) hl hm (by unfold reachBytes at hbd; omega) hblk hblk (fun i j hi' hj => ?_) (fun i hi' => ?_) (fun i j hi' hj => ?_) (fun i j hi' hj => ?_), trivial⟩
            · have := hcell i j hi' hj
              rwa [WideShapes.add_plain, WideShapes.add_plain] at this
            · have := (hC i hi').2.lens.2
              simpa [List.getD, hi'] using this
            · have := (hC i hi').2.at j hj
              simpa [List.getD, hi'] using this
            · refine hz b _ ?_
              rw [hx]
              refine List.mem_append.2 (.inl ?_)
              unfold MemPlace.row
              refine List.mem_map.2 ⟨i * fs.length + j, List.mem_range.2 ?_, by rw [Nat.add_assoc]⟩
              rw [h2]
              have h5 : (i + 1) * fs.length ≤ m * fs.length := Nat.mul_le_mul_right _ (by omega)
              rw [Nat.add_mul] at h5; omega
          · have h0 : len = 0 := by omega
            subst h0
            exact ⟨[.sl []], .emp (fun hh => by cases hh) hm, trivial⟩
      · cases h
    · rename_i fs hu
      simp only [Bool.and_eq_true, beq_iff_eq] at h
      obtain ⟨h1, h2⟩ := h
      obtain ⟨xs, n', _, hx, hcl, hxl, hall⟩ := DataW.trod_struct hu ht
      have := tiles_rd (P := P) (w := w) (okTy P n) ts cs (by omega) fs.toList 0 (Nat.zero_le _) h2 (fun f hf us hus => by
        obtain ⟨i, hi⟩ := List.getElem?_of_mem hf
        rw [Array.getElem?_toList] at hi
        have hilt : i < fs.size := (Array.getElem?_eq_some_iff.1 hi).1
        have h3 := hall i f hi
        rw [List.getElem?_eq_getElem (show i < xs.length by omega)] at h3
        refine rd_of_trod n f.type us n' _ _ hus h3 (fun q hq => hw q ?_) (fun b off hp => hz b off (by
          rw [hx]
          exact List.mem_flatMap.2 ⟨_, List.getElem_mem (show i < xs.length by omega), hp⟩))
        rw [hx]
        simp only [DataW.weights, hu]
        refine DataW.weights_mem_each (j := i) (t := f.type) (d := xs[i].1) ?_ ?_ q hq
        · rw [List.getElem?_map, Array.getElem?_toList, hi]; rfl
        · rw [List.getElem?_map, List.getElem?_eq_getElem (show i < xs.length by omega)]; rfl)
      simpa using this
    · cases h
theorem rd_arg {t : TypeId} {ts : List Ty} {v : Value} {d : DataW H} {p : List MemPlace} (n : Nat) (hok : okTy P n t ts = true) (h : DataW.Trod enc P w base spare held t v d p) (hw : Light P t d) (hz : w.noneFrozen p) : ∃ ds, RdL w (fun b => b < w.heap.size) ts v.cells.toList ds := by
 obtain ⟨fuel, hf⟩ := h
 exact rd_of_trod n t ts fuel _ _ hok hf hw hz
theorem light_of {tys : List TypeId} {ds : List (DataW H)} (h : (DataW.weightsEach P tys ds).all (· ≤ reachBytes) = true) {j : Nat} {t : TypeId} {d : DataW H} (ht : tys[j]? = some t) (hd : ds[j]? = some d) : Light P t d := fun n hn => by
 simpa using List.all_eq_true.1 h n (DataW.weights_mem_each ht hd n hn)
theorem agg_of {t : TypeId} {fs : Array Field} {v : Value} {r : Reach} {b0 : Nat} (hs : P.underlying t = some (.struct fs)) (hv : Value.okWide P w r b0 t v) : v = .agg v.cells.toList.toArray := by
 obtain ⟨cs, rfl, _⟩ := okWide_struct hs hv
 rfl
end
end Go.Proofs.YteabcgkjbnecaaaGreat
