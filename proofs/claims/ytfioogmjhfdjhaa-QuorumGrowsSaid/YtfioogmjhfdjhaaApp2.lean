/- Where an append of one number leads: into the row that it had, or into the newest block. Condition: fewer than 2^43 numbers. -/
import Derived.Test.YtfioogmjhfdjhaaConcat
namespace Go.Proofs.Ytfioogmjhfdjhaa
open Go.RowKit
set_option linter.unusedVariables false
theorem app_block {P : Program} {w : World} {base : Nat} {t ty e : TypeId} {i : TypeInfo} {z : Value} {size bytes : Nat} (ht : P.underlying t = some (.slice e)) (hi : P.info? e = some i) (hz : i.zero = some z)
    (hsize : i.size = size) (hby : i.bytes = bytes) (hsz : 0 < size) {v : Value} {n : Nat} {xs : List Value} (hown : w.ownsRow base e size v n xs)
    {a : Addr} {m c : Nat} {news : List Value} (hl : news.length = m * size) (hnews : ∀ j u, news[j]? = some u → w.cell? (a.add j) = some u) (h1 : ∀ u ∈ news, u.oneCell' = true)
    (h63 : n + m ≤ maxLen) (hbytes : (n + m) * bytes ≤ 140737488355328) (hm : 0 < m) {v' : Value} {w' : World} (hr : (Builtin.append_ #[t, t] ty #[v, .slice (some a) m c]).run P w = .ok v' w') :
    v'.ownBlock = v.ownBlock ∨ v'.ownBlock = some w.heap.size := by
  subst hsize
  subst hby
  have hsmall : n + m ≤ 9223372036854775807 := by simp only [maxLen] at h63; omega
  rcases hown.2 with ⟨rfl, rfl⟩ | ⟨g, cap, cur, rfl, hbg, hg, hnc, hcm, hcs, htake⟩
  · have h2 := run_append_nil (P := P) w t ty e i z ht hi hz a m c news hl hnews (by omega) (by omega) (by have hb := hbytes; simp only [Nat.zero_add] at hb; omega)
    rw [h2] at hr
    simp only [Result.ok.injEq] at hr
    rw [← hr.1]; exact .inr rfl
  · by_cases hroom : n + m ≤ cap
    · obtain ⟨w2, h2, _⟩ := run_append_fits (P := P) w base t ty e i i.size ht hi rfl g n cap xs hown a m c news hl hnews h1 hroom
      rw [h2] at hr
      simp only [Result.ok.injEq] at hr
      rw [← hr.1]; exact .inl rfl
    · have h2 := run_append_grow (P := P) w t ty e i z ht hi hz ⟨g, 0, none⟩ n cap xs hown.1 (hown.cells (g := g) rfl) a m c news hl hnews (by omega) (by omega) (growslice_fits (by omega) hbytes)
      rw [h2] at hr
      simp only [Result.ok.injEq] at hr
      rw [← hr.1]; exact .inr rfl
theorem wpList_app1b {ops : Array Oper} {rest : List Oper} {o : Oper} {a : Act} {Q : Exit → Act → World → Prop} {wr : World} (hgd : o.guard = none) (s x : Operand) (t : TypeId)
    (ho : o.op = .call { callee := .builtin .append, args := #[s, x], argTypes := #[t, t] }) (ht : Try.prog.underlying t = some (.slice 3))
    (base : Nat) (v : Value) (xs : List Int) (hs : a.eval s = v) (hown : OwnI base wr v xs) (y : Int) (T : TypeId) (ad : Addr) (had : ad = ⟨wr.heap.size, 0, none⟩) (hx : a.eval x = .slice (some ad) 1 1)
    (hn : xs.length < 8796093022208) (hbase : base ≤ wr.heap.size)
    (h : ∀ v' w', OwnI base w' v' (xs ++ [y]) → wr.grownBy w' v.ownBlock → (v'.ownBlock = v.ownBlock ∨ v'.ownBlock = some (wr.heap.size + 1)) → wpList Try.prog ops Q rest (a.put o.dst v') w') : wpList Try.prog ops Q (o :: rest) a (wr.alloc (.cells #[.int .i64 y] T)) := by
  obtain ⟨i0, hi, hz0, hz1, hz2⟩ := info_parts infoInt
  subst had
  have hown2 : World.ownsRow (wr.alloc (.cells #[.int .i64 y] T)) base 3 1 v xs.length (xs.map (Value.int .i64)) := World.ownsRow.alloc hown _
  have h1 : ∀ u ∈ [Value.int .i64 y], u.oneCell' = true := by simp [Value.oneCell']
  have h63 : xs.length + 1 ≤ maxLen := by unfold maxLen; omega
  obtain ⟨v', w', hr, ho', hg', _⟩ := run_append_own (P := Try.prog) (wr.alloc (.cells #[.int .i64 y] T)) base t o.type 3 i0 (.int .i64 0) 1 8 ht hi hz0 hz1 hz2 rfl (by decide) v xs.length _ hown2 ⟨wr.heap.size, 0, none⟩ 1 1 [.int .i64 y] rfl (one_new _ _ _) h1 h63 (by omega) (by simp; omega)
  have hblk := app_block ht hi hz0 hz1 hz2 (by decide) hown2 (by rfl) (one_new _ _ _) h1 h63 (by omega) (by decide) hr
  refine Lib.wpList_append_run _ hgd s x t t ho v _ hs hx v' w' hr (h v' w' ?_ ?_ (by simpa using hblk))
  · show World.ownsRow _ _ _ _ _ _ _
    have e1 : (xs ++ [y]).length = xs.length + 1 := by simp
    have e2 : (xs ++ [y]).map (Value.int .i64) = xs.map (Value.int .i64) ++ [.int .i64 y] := by simp
    rw [e1, e2]; exact ho'
  · exact ⟨hg'.os, hg'.tape, hg'.output, by have := hg'.size; simp at this; omega, fun k hk hne => by rw [hg'.block k (by simp; omega) hne, Below.heap_alloc _ _ _ hk]⟩
end Go.Proofs.Ytfioogmjhfdjhaa
