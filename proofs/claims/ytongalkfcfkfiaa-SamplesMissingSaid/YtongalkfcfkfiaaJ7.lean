/-
  With at most one link cut, every node is reached.
  What arrives: all frames, once.
  Regions in any order, with a view before a call; two contracts.
-/
import Derived.Test.YtongalkfcfkfiaaJ5
import Derived.Test.YtongalkfcfkfiaaJ6
section
namespace Go.Proofs.Ytongalkfcfkfiaa
open Go.Pv Go.RowKit
set_option linter.unusedSimpArgs false
set_option linter.unusedVariables false

theorem asc_mem (c : List Bool) (n : Nat) (hn : 0 < n) : ∀ (f x h d : Nat), x < n → 1 ≤ d → d ≤ f → (∀ j, j < d → c.getD ((x + j) % n) false = false) → ∃ h', ((x + d) % n, h') ∈ ascL c n f x h
  | 0, x, h, d, hx, h1, h2, _ => by omega
  | f + 1, x, h, d, hx, h1, h2, hc => by
    have h0 := hc 0 (by omega)
    rw [Nat.add_zero, Nat.mod_eq_of_lt hx] at h0
    rw [ascL, if_neg (by rw [h0]; simp)]
    by_cases hd : d = 1
    · subst hd; exact ⟨h, by simp⟩
    · obtain ⟨h', hh⟩ := asc_mem c n hn f ((x + 1) % n) (h + 1) (d - 1) (Nat.mod_lt _ hn) (by omega) (by omega) (fun j hj => by
        have := hc (j + 1) (by omega)
        rwa [Nat.mod_add_mod, Nat.add_assoc, Nat.add_comm 1 j])
      refine ⟨h', List.mem_cons_of_mem _ ?_⟩
      rwa [Nat.mod_add_mod, Nat.add_assoc, show 1 + (d - 1) = d by omega] at hh
theorem des_mem (c : List Bool) (n : Nat) (hn : 0 < n) : ∀ (f x h d : Nat), x < n → 1 ≤ d → d ≤ f → (∀ j, 1 ≤ j → j ≤ d → c.getD ((x + j * (n - 1)) % n) false = false) → ∃ h', ((x + d * (n - 1)) % n, h') ∈ desL c n f x h
  | 0, x, h, d, hx, h1, h2, _ => by omega
  | f + 1, x, h, d, hx, h1, h2, hc => by
    have h0 := hc 1 (by omega) (by omega)
    rw [Nat.one_mul] at h0
    rw [desL, if_neg (by rw [h0]; simp)]
    by_cases hd : d = 1
    · subst hd; exact ⟨h, by simp⟩
    · obtain ⟨h', hh⟩ := des_mem c n hn f ((x + (n - 1)) % n) (h + 1) (d - 1) (Nat.mod_lt _ hn) (by omega) (by omega) (fun j hj1 hj => by
        have := hc (j + 1) (by omega) (by omega)
        rwa [Nat.mod_add_mod, Nat.add_assoc, show n - 1 + j * (n - 1) = (j + 1) * (n - 1) by rw [Nat.add_mul, Nat.one_mul, Nat.add_comm]])
      refine ⟨h', List.mem_cons_of_mem _ ?_⟩
      rwa [Nat.mod_add_mod, Nat.add_assoc, show n - 1 + (d - 1) * (n - 1) = d * (n - 1) by
        conv => rhs; rw [show d = (d - 1) + 1 by omega, Nat.add_mul, Nat.one_mul, Nat.add_comm]] at hh
theorem rAll_keep (n : Nat) {t : Nat} : ∀ (l : List PN) (R : List Bool), R[t]? = some true → (rAll n R l)[t]? = some true
  | [], R, h => h
  | p :: l, R, h => by
    refine rAll_keep n l (rSet n R p) ?_
    unfold rSet
    rw [List.getElem?_set]
    have ht := (List.getElem?_eq_some_iff.1 h).1
    split
    · rw [if_pos (by omega)]
    · exact h
theorem rAll_mem (n : Nat) {t : Nat} {h' : Nat} : ∀ (l : List PN) (R : List Bool), R.length = n → t < n → (t, h') ∈ l → (rAll n R l)[t]? = some true
  | [], R, _, _, h => by simp at h
  | p :: l, R, hl, ht, h => by
    rcases List.mem_cons.1 h with e | h
    · refine rAll_keep n l (rSet n R p) ?_
      rw [rSet, ← e, List.getElem?_set, Nat.mod_eq_of_lt ht, if_pos rfl, if_pos (by omega)]
    · exact rAll_mem n l (rSet n R p) (by simp [rSet, hl]) ht h
theorem cutL_at {n : Nat} {c : Int} {p : Nat} (h : (cutL n c).getD p false = true) : p = (c % n).toNat := by
  unfold cutL at h
  rw [List.getD_eq_getElem?_getD] at h
  split at h
  · rw [List.getElem?_replicate] at h; split at h <;> simp at h
  · rw [List.getElem?_set] at h
    split at h
    · rename_i e; exact e.symm
    · rw [List.getElem?_replicate] at h; split at h <;> simp at h
theorem mod_ne {n s j k : Nat} (hj : j < n) (hk : k < n) (hne : j ≠ k) : (s + j) % n ≠ (s + k) % n := by
  intro h
  rcases Nat.lt_or_gt_of_ne hne with h1 | h1
  · have := Nat.sub_mod_eq_zero_of_mod_eq h.symm
    rw [show s + k - (s + j) = k - j by omega, Nat.mod_eq_of_lt (by omega)] at this
    omega
  · have := Nat.sub_mod_eq_zero_of_mod_eq h
    rw [show s + j - (s + k) = j - k by omega, Nat.mod_eq_of_lt (by omega)] at this
    omega
theorem back_mod {n s j : Nat} (hj : j ≤ n) (h1 : 1 ≤ j) : (s + j * (n - 1)) % n = (s + (n - j)) % n := by
  have h : s + j * (n - 1) = s + (n - j) + (j - 1) * n := by
    obtain ⟨k, rfl⟩ : ∃ k, j = k + 1 := ⟨j - 1, by omega⟩
    obtain ⟨m, rfl⟩ : ∃ m, n = m + 1 := ⟨n - 1, by omega⟩
    obtain ⟨r, rfl⟩ : ∃ r, m = k + r := ⟨m - k, by omega⟩
    have e1 : k + r + 1 - 1 = k + r := by omega
    have e2 : k + r + 1 - (k + 1) = r := by omega
    have e3 : k + 1 - 1 = k := by omega
    rw [e1, e2, e3, Nat.add_mul, Nat.mul_add k (k + r) 1]
    omega
  rw [h, Nat.add_mul_mod_self_right]
theorem rch_true {n src d : Nat} (c : Int) (h3 : 3 ≤ n) (hs : src < n) (h1 : 1 ≤ d) (h2 : d ≤ n - 1) : (rchL (cutL n c) n src)[(src + d) % n]? = some true := by
  have hn : 0 < n := by omega
  have ht : (src + d) % n < n := Nat.mod_lt _ hn
  by_cases h : ∀ j, j < d → (cutL n c).getD ((src + j) % n) false = false
  · obtain ⟨h', hm⟩ := asc_mem (cutL n c) n hn (n - 1) src 1 d hs h1 h2 h
    refine rAll_keep n _ _ ?_
    exact rAll_mem n _ _ (rchN_len _ _ _ 0) ht hm
  · have h : ∃ j, j < d ∧ (cutL n c).getD ((src + j) % n) false = true := Classical.byContradiction fun hh => h fun j hj => by
      cases hc : (cutL n c).getD ((src + j) % n) false with
      | false => rfl
      | true => exact absurd ⟨j, hj, hc⟩ hh
    obtain ⟨j, hj, hc⟩ := h
    have hp := cutL_at hc
    obtain ⟨h', hm⟩ := des_mem (cutL n c) n hn (n - 1) src 1 (n - d) hs (by omega) (by omega) (fun k hk1 hk2 => by
      rw [back_mod (by omega) hk1]
      cases hc2 : (cutL n c).getD ((src + (n - k)) % n) false with
      | false => rfl
      | true => exact absurd ((cutL_at hc2).trans hp.symm) (mod_ne (by omega) (by omega) (by omega)))
    rw [back_mod (by omega) (by omega), show n - (n - d) = d by omega] at hm
    exact rAll_mem n _ _ (rchN_len _ _ _ 1) ht hm
end Go.Proofs.Ytongalkfcfkfiaa
end
section
namespace Go.Proofs.Ytongalkfcfkfiaa
open Go.Pv Go.RowKit
set_option linter.unusedSimpArgs false
set_option linter.unusedVariables false
set_option maxRecDepth 100000
set_option maxHeartbeats 4000000

def nCA (a ca : Int) : List (List V) := (cutL (nodesN a) ca).map bl1
/-- The node that receives. -/
def toN (a b : Int) : Nat := ((b % nodesN a).toNat + (1 + (a % (nodesN a - 1 : Nat)).toNat)) % nodesN a
theorem toN_lt (a b : Int) : toN a b < nodesN a := Nat.mod_lt _ (by have := nodesN_b a; omega)
theorem toN_rch (a b c : Int) : (rchL (cutL (nodesN a) c) (nodesN a) (b % nodesN a).toNat)[toN a b]? = some true := by
  have hb := nodesN_b a
  have h1 := Int.emod_nonneg b (show (nodesN a : Int) ≠ 0 by omega)
  have h2 := Int.emod_lt_of_pos b (show (0 : Int) < nodesN a by omega)
  have h3 := Int.emod_nonneg a (show ((nodesN a - 1 : Nat) : Int) ≠ 0 by omega)
  have h4 := Int.emod_lt_of_pos a (show (0 : Int) < (nodesN a - 1 : Nat) by omega)
  exact rch_true c hb.1 (by omega) (by omega) (by omega)
theorem vnilAt (n : Nat) {st : St} {t o key key' i : Nat} {blk : Blk} (sz : Nat) (ty' : TypeId) (ht : st.env t = .ptr key o) (hk : st.heap key = some blk) (hi : blk.cells[i]? = some .nils) (hk' : st.heap key' = none) :
    View n st ⟨st.env, upd (upd st.heap key (some ⟨blk.ty, blk.cells.set i (.sl key' 0 0 sz)⟩)) key' (some ⟨ty', []⟩)⟩ := fun w0 ro lam a w hs => ⟨ro, _, Ext.refl _ _, hs.nilCellAt sz (by
      have := hs.env t
      rw [ht] at this
      obtain ⟨b, m, hl, _⟩ := this.ptr_inv
      exact ⟨b, m, hl⟩) hk hi hk'⟩
theorem ouM_chunks {l : List Fr} (h : l.length = 11) : chunks 5 11 (ouM l 11) = l.map Fr.cs := by
  have e : l.take 11 = l := by rw [← h, List.take_length]
  have := chunks_rows (sz := 5) (l.map Fr.cs) (fun c hc => by simp only [List.mem_map] at hc; obtain ⟨f, _, rfl⟩ := hc; rfl)
  rw [List.length_map, h] at this
  rw [ouM, e]; exact this
def arH0 (CA CB : List (List V)) (s : St) : Prop := s.heap 9 = some ⟨47, [.list 1 CA, .list 1 CB]⟩ ∧ s.heap 11 = some ⟨51, [.nils, .nils]⟩ ∧
  s.heap 20 = none ∧ s.heap 24 = none ∧ s.heap 26 = none ∧ s.heap 28 = none ∧ s.heap 153 = none ∧ s.heap 154 = none ∧ s.heap 79 = none ∧ s.heap 80 = none ∧ s.heap 85 = none ∧ s.heap 86 = none ∧ s.heap 16 = none
theorem arr_ok (a b ca cb : Int) (l : List Fr) (hN : l.length = 11) (hok : ∀ f ∈ l, okFr f) :
    PCall Try.prog 7 [.agg [.int .i64 a, .int .i64 b, .int .i64 ca, .int .i64 cb], .list 5 (l.map Fr.cs), .int .i64 2] (.list 5 (l.map Fr.cs)) := by
  have hb := nodesN_b a
  have c0 := fine_ok a b ca cb
  have hr0 := toN_rch a b ca
  have hr1 := toN_rch a b cb
  have hto := toN_lt a b
  have hlen0 : (cutL (nodesN a) ca).length = nodesN a := cutL_len _ _
  have hlen1 : (cutL (nodesN a) cb).length = nodesN a := cutL_len _ _
  have h1 := Int.emod_nonneg b (show (nodesN a : Int) ≠ 0 by omega)
  have h2 := Int.emod_lt_of_pos b (show (0 : Int) < nodesN a by omega)
  have h3 := Int.emod_nonneg a (show ((nodesN a - 1 : Nat) : Int) ≠ 0 by omega)
  have h4 := Int.emod_lt_of_pos a (show (0 : Int) < (nodesN a - 1 : Nat) by omega)
  have c1 := wi1_tab _ _ (Twi_at (n := a) (m := (nodesN a - 1 : Nat)) (by omega) (by omega))
  have htoD : ((b % nodesN a).toNat + (1 + (a % (nodesN a - 1 : Nat)).toNat)) % nodesN a = toN a b := rfl
  generalize toN a b = to at *
  generalize a % (nodesN a - 1 : Nat) = dd at *
  obtain ⟨src, hsrc⟩ : ∃ s : Nat, b % nodesN a = s := ⟨(b % nodesN a).toNat, by omega⟩
  rw [hsrc, Int.toNat_natCast] at hr0 hr1 htoD
  rw [hsrc] at c0 h1 h2
  obtain ⟨dn, hdn⟩ : ∃ d : Nat, dd = d := ⟨dd.toNat, by omega⟩
  subst hdn
  rw [Int.toNat_natCast] at htoD
  have c2 : PCall Try.prog 16 [.agg [.list 1 ((cutL (nodesN a) ca).map bl1)], .int .i64 src] (.list 1 ((rchL (cutL (nodesN a) ca) (nodesN a) src).map bl1)) := rch_ok _ _ src hlen0 hb.1 hb.2 (by omega)
  have c3 : PCall Try.prog 16 [.agg [.list 1 ((cutL (nodesN a) cb).map bl1)], .int .i64 src] (.list 1 ((rchL (cutL (nodesN a) cb) (nodesN a) src).map bl1)) := rch_ok _ _ src hlen1 hb.1 hb.2 (by omega)
  have hg0 : (rchL (cutL (nodesN a) ca) (nodesN a) src).length = nodesN a := rchN_len _ _ _ 2
  have hg1 : (rchL (cutL (nodesN a) cb) (nodesN a) src).length = nodesN a := rchN_len _ _ _ 2
  have ht0 : ((rchL (cutL (nodesN a) ca) (nodesN a) src).map bl1)[to]? = some [.bool true] := by rw [List.getElem?_map, hr0]; rfl
  have ht1 : ((rchL (cutL (nodesN a) cb) (nodesN a) src).map bl1)[to]? = some [.bool true] := by rw [List.getElem?_map, hr1]; rfl
  have hl0 : ((rchL (cutL (nodesN a) ca) (nodesN a) src).map bl1).length = nodesN a := by simp [hg0]
  have hl1 : ((rchL (cutL (nodesN a) cb) (nodesN a) src).map bl1).length = nodesN a := by simp [hg1]
  clear hr0 hr1 hg0 hg1 hlen0 hlen1 h3
  generalize (rchL (cutL (nodesN a) ca) (nodesN a) src).map bl1 = rr0 at *
  generalize (rchL (cutL (nodesN a) cb) (nodesN a) src).map bl1 = rr1 at *
  generalize (cutL (nodesN a) ca).map bl1 = CA at *
  generalize (cutL (nodesN a) cb).map bl1 = CB at *
  generalize nodesN a = n at *
  have w1 : IntKind.i64.wrap ((src : Int) + 1) = (src : Int) + 1 := wrap_id (by omega) (by omega)
  have w2 : IntKind.i64.wrap ((n : Int) - 1) = ((n - 1 : Nat) : Int) := by rw [wrap_id (by omega) (by omega)]; omega
  have w3 : IntKind.i64.wrap ((src : Int) + 1 + (dn : Int)) = (src : Int) + 1 + (dn : Int) := wrap_id (by omega) (by omega)
  have w4 : ((src : Int) + 1 + (dn : Int)).tmod n = (to : Int) := by
    rw [Int.tmod_eq_emod_of_nonneg (by omega), ← htoD, show (src : Int) + 1 + (dn : Int) = ((src + (1 + dn) : Nat) : Int) by omega]; simp
  have hn0 : ¬ (n : Int) = 0 := by omega
  have hn1 : ((n : Int) == 0) = false := by simp; omega
  have hn2 : ¬ n = 0 := by omega
  have c0' := H1_ok c0 (by kernel_rfl)
  have c1' := H1_ok c1 (by kernel_rfl)
  have c2' := H1_ok c2 (by kernel_rfl)
  have c3' := H1_ok c3 (by kernel_rfl)
  clear c0 c1 c2 c3
  have hll : (l.map Fr.cs).length = 11 := by simp [hN]
  refine pcall_of2 Try.func7 rfl Try.ntmps7 Try.results7 (by simp) ?_
  refine cut (K := fun s => (s.env 1 = .list 5 (l.map Fr.cs) ∧ s.env 2 = .int .i64 2 ∧ s.env 3 = .ptr 3 0) ∧ s.heap = upd (fun _ => none) 3 (some ⟨23, [.int .i64 a, .int .i64 b, .int .i64 ca, .int .i64 cb]⟩)) ?_ ?_
  · refine CW.of_cx (D := (fun id => if id = 13 then some ⟨[(13, 11), (15, 11), (5004, 79)], [7, 9]⟩ else none)) noTab_ok mixed _ _ _ (by kernel_rfl) ?_
    repeat' first
      | (with_reducible refine gw_bool (fun _ => ?_) (fun _ => ?_))
      | (with_reducible refine condw_bool (fun _ => ?_) (fun _ => ?_))
      | simp [*]
  rintro ⟨e, h⟩ ⟨hk, hh⟩
  simp only at hk hh
  subst hh
  refine cut (K := fun s => (s.env 1 = .list 5 (l.map Fr.cs) ∧ s.env 2 = .int .i64 2 ∧ s.env 3 = .ptr 3 0 ∧ s.env 7 = .int .i64 n ∧ s.env 8 = .int .i64 src ∧ s.env 9 = .ptr 9 0) ∧ s.heap = upd (upd (fun _ => none) 3 (some ⟨23, [.int .i64 a, .int .i64 b, .int .i64 ca, .int .i64 cb]⟩)) 9 (some ⟨47, [.list 1 CA, .list 1 CB]⟩)) ?_ ?_
  · refine CW.of_cx (D := fun _ => none) c0' mixed _ _ _ (by kernel_rfl) ?_
    repeat' first
      | (with_reducible refine gw_bool (fun _ => ?_) (fun _ => ?_))
      | (with_reducible refine condw_bool (fun _ => ?_) (fun _ => ?_))
      | simp [*, setsV]
    exact funext fun k => by simp only [upd]; split <;> rfl
  clear hk e
  rintro ⟨e, h⟩ ⟨hk, hh⟩
  simp only at hk hh
  subst hh
  refine cut (K := fun s => (s.env 1 = .list 5 (l.map Fr.cs) ∧ s.env 2 = .int .i64 2 ∧ s.env 7 = .int .i64 n ∧ s.env 8 = .int .i64 src ∧ s.env 9 = .ptr 9 0 ∧ s.env 10 = .int .i64 to) ∧ s.heap = upd (upd (fun _ => none) 3 (some ⟨23, [.int .i64 a, .int .i64 b, .int .i64 ca, .int .i64 cb]⟩)) 9 (some ⟨47, [.list 1 CA, .list 1 CB]⟩)) ?_ ?_
  · refine CW.of_cx (D := fun _ => none) c1' mixed _ _ _ (by kernel_rfl) ?_
    repeat' first
      | (with_reducible refine gw_bool (fun _ => ?_) (fun _ => ?_))
      | (with_reducible refine condw_bool (fun _ => ?_) (fun _ => ?_))
      | simp [*]
  clear hk e
  rintro ⟨e, h⟩ ⟨hk, hh⟩
  simp only at hk hh
  subst hh
  refine cut (K := fun s => (s.env 1 = .list 5 (l.map Fr.cs) ∧ s.env 2 = .int .i64 2 ∧ s.env 7 = .int .i64 n ∧ s.env 8 = .int .i64 src ∧ s.env 9 = .ptr 9 0 ∧ s.env 10 = .int .i64 to ∧ s.env 11 = .ptr 11 0) ∧ arH0 CA CB s) ?_ ?_
  · refine CW.of_cx (D := (fun id => if id = 13 then some ⟨[(13, 11), (15, 11), (5004, 79)], [7, 9]⟩ else none)) noTab_ok mixed _ _ _ (by kernel_rfl) ?_
    repeat' first
      | (with_reducible refine gw_bool (fun _ => ?_) (fun _ => ?_))
      | (with_reducible refine condw_bool (fun _ => ?_) (fun _ => ?_))
      | simp [*, arH0]
  clear hk e
  rintro ⟨e, h⟩ hk
  simp only [arH0] at hk
  have hsq : sqN 0 = 65530 := rfl
  refine cut (K := fun s => (s.env 1 = .list 5 (l.map Fr.cs) ∧ s.env 2 = .int .i64 2 ∧ s.env 7 = .int .i64 n ∧ s.env 8 = .int .i64 src ∧ s.env 9 = .ptr 9 0 ∧ s.env 10 = .int .i64 to ∧ s.env 11 = .ptr 11 0 ∧ s.env 12 = .int .i64 65530) ∧ arH0 CA CB s) ?_ ?_
  · refine CW.of_cx (D := (fun id => if id = 13 then some ⟨[(13, 11), (15, 11), (5004, 79)], [7, 9]⟩ else none)) noTab_ok mixed _ _ _ (by kernel_rfl) ?_
    repeat' first
      | (with_reducible refine gw_bool (fun _ => ?_) (fun _ => ?_))
      | (with_reducible refine condw_bool (fun _ => ?_) (fun _ => ?_))
      | simp [*, arH0]
  clear hk e h
  intro st hk
  refine cut (K := fun s => ar0 l CA CB n src to 11 s) ?_ ?_
  · refine cut (K := fun s => (s.env 1 = .list 5 (l.map Fr.cs) ∧ s.env 2 = .int .i64 2 ∧ s.env 7 = .int .i64 n ∧ s.env 8 = .int .i64 src ∧ s.env 9 = .ptr 9 0 ∧ s.env 10 = .int .i64 to ∧ s.env 11 = .ptr 11 0 ∧ s.env 12 = .int .i64 65530 ∧ s.env 13 = .int .i64 0) ∧ arH0 CA CB s) ?_ ?_
    · obtain ⟨e, h⟩ := st
      simp only [arH0] at hk
      refine CW.of_cx (D := (fun id => if id = 13 then some ⟨[(13, 11), (15, 11), (5004, 79)], [7, 9]⟩ else none)) noTab_ok mixed _ _ _ (by kernel_rfl) ?_
      repeat' first
        | (with_reducible refine gw_bool (fun _ => ?_) (fun _ => ?_))
        | (with_reducible refine condw_bool (fun _ => ?_) (fun _ => ?_))
        | simp [*, arH0]
    clear hk st
    rintro ⟨e, h⟩ hk
    simp only [arH0] at hk
    obtain ⟨⟨k1, k2, k7, k8, k9, k10, k11, k12, k13⟩, g9, g11, g20, g24, g26, g28, g153, g154, g79, g80, g85, g86, g16⟩ := hk
    refine cw_view (vnilAt _ (t := 11) (o := 0) (key := 11) (key' := 80) (i := 0) (blk := ⟨51, [.nils, .nils]⟩) 1 52 k11 g11 rfl g80) ?_
    refine cw_view (vnilAt _ (t := 11) (o := 0) (key := 11) (key' := 86) (i := 1) (blk := ⟨51, [.sl 80 0 0 1, .nils]⟩) 1 52 (by simp [*]) (by simp) rfl (by simp [*])) ?_
    refine loop0 l CA CB n src to 11 hN (by omega) hok (by omega) (by omega) _ (by kernel_rfl) _ ?_
    simp [*, ar0, arE, r3G, cpL]
  clear hk st
  intro st hk
  simp only [ar0, arE, r3G] at hk
  obtain ⟨⟨k1, k2, k7, k8, k9, k10, k12, k13, k11, g9, g20, g24, g26, g28, g153, g154⟩, ⟨g11, g80, g86⟩, g79, g85, g16⟩ := hk
  have hc0 := cpL_chunks 160 l src 11
  have hc1 := cpL_chunks 161 l src 11
  have hcl0 := cpL_len 160 l src 11
  have hcl1 := cpL_len 161 l src 11
  refine cw_view (View.pub _ (key := 80) (blk := ⟨52, cpL 160 l src 11⟩) g80 (cpL_pure _ _ _ _)) ?_
  refine cw_view (View.pub _ (key := 86) (blk := ⟨52, cpL 161 l src 11⟩) (by
    have := pub_cells (key := 80) (blk := (⟨52, cpL 160 l src 11⟩ : Blk)) (cpL_pure 161 l src 11)
    simp [St.pub, g86, this]) (cpL_pure _ _ _ _)) ?_
  have hp : ∀ k b, (cpL 161 l src 11).map (pubC k b) = cpL 161 l src 11 := fun k b => pub_cells (cpL_pure 161 l src 11)
  simp only [← hc0, ← hc1]
  generalize cpL 160 l src 11 = A at *
  generalize cpL 161 l src 11 = B at *
  refine cw_view (View.pub _ (key := 11) (blk := ⟨51, [.list 1 (chunks 1 11 A), .list 1 (chunks 1 11 B)]⟩) (by simp [St.pub, pubC, *]) rfl) ?_
  refine cw_view (View.pub _ (key := 9) (blk := ⟨47, [.list 1 CA, .list 1 CB]⟩) (by simp [St.pub, pubC, *]) rfl) ?_
  refine cut (K := fun s => (s.env 2 = .int .i64 2 ∧ s.env 8 = .int .i64 src ∧ s.env 9 = .rp [.list 1 CA, .list 1 CB] ∧ s.env 10 = .int .i64 to ∧ s.env 11 = .rp [.list 1 (chunks 1 11 A), .list 1 (chunks 1 11 B)] ∧ s.env 19 = .nils) ∧ (s.heap 20 = none ∧ s.heap 154 = none ∧ ar4 s)) ?_ ?_
  · refine CW.of_cx (D := (fun id => if id = 13 then some ⟨[(13, 11), (15, 11), (5004, 79)], [7, 9]⟩ else none)) noTab_ok mixed _ _ _ (by kernel_rfl) ?_
    repeat' first
      | (with_reducible refine gw_bool (fun _ => ?_) (fun _ => ?_))
      | (with_reducible refine condw_bool (fun _ => ?_) (fun _ => ?_))
      | simp [*, St.pub, pubC, pubT, pubA, ar4]
  clear g9 g20 g24 g26 g28 g153 g154 g79 g85 g16 g11 g80 g86 k1 k2 k7 k8 k9 k10 k12 k13 k11 st hp
  rw [hc0, hc1]
  rintro ⟨e, h⟩ hk
  simp only [ar4] at hk
  refine cut (K := fun s => (s.env 2 = .int .i64 2 ∧ s.env 8 = .int .i64 src ∧ s.env 9 = .rp [.list 1 CA, .list 1 CB] ∧ s.env 10 = .int .i64 to ∧ s.env 11 = .rp [.list 1 (rwL 160 l src 11), .list 1 (rwL 161 l src 11)] ∧ s.env 19 = .nils ∧ s.env 20 = .ptr 20 0) ∧ (s.heap 20 = some ⟨60, [.nils]⟩ ∧ s.heap 154 = none ∧ ar4 s)) ?_ ?_
  · refine CW.of_cx (D := (fun id => if id = 13 then some ⟨[(13, 11), (15, 11), (5004, 79)], [7, 9]⟩ else none)) noTab_ok mixed _ _ _ (by kernel_rfl) ?_
    repeat' first
      | (with_reducible refine gw_bool (fun _ => ?_) (fun _ => ?_))
      | (with_reducible refine condw_bool (fun _ => ?_) (fun _ => ?_))
      | simp [*, ar4, setsV]
  clear hk e h
  rintro st ⟨⟨k2, k8, k9, k10, k11, k19, k20⟩, g20, g154, g4⟩
  refine cw_view (View.nilOwn _ (t := 19) (key := 154) 5 42 k19 g154) ?_
  refine cut (K := fun s => ar2 CA CB (rwL 160 l src 11) (rwL 161 l src 11) src to 2 11 (ouM l 11) (bxI src 2 0) s) ?_ ?_
  · refine cut (K := fun s => ar2 CA CB (rwL 160 l src 11) (rwL 161 l src 11) src to 0 (cnI 0 0) (ouM l (cnI 0 0)) (bxI src 0 0) s ∧ ar4 s) ?_ ?_
    · simp only [ar4] at g4
      refine CW.of_cx (D := (fun id => if id = 13 then some ⟨[(13, 11), (15, 11), (5004, 79)], [7, 9]⟩ else none)) noTab_ok mixed _ _ _ (by kernel_rfl) ?_
      repeat' first
        | (with_reducible refine gw_bool (fun _ => ?_) (fun _ => ?_))
        | (with_reducible refine condw_bool (fun _ => ?_) (fun _ => ?_))
        | simp [*, ar2, ar4, cnI, ouM, bxI, bxK]
    clear k2 k8 k9 k10 k11 k19 k20 g20 g154 g4 st
    intro st h0
    refine cw_block (LH.cw (LH.inv (α := Nat) (fun i s => i ≤ 2 ∧ ar2 CA CB (rwL 160 l src 11) (rwL 161 l src 11) src to i (cnI i 0) (ouM l (cnI i 0)) (bxI src i 0) s ∧ ar4 s) (fun i => 2 - i) ?_ _ 0 _ rfl ⟨by omega, h0⟩))
    clear h0 st
    rintro i st ⟨hi, hst⟩
    by_cases hlt : i < 2
    · have hcn : cnI i 11 = cnI (i + 1) 0 := by
        obtain rfl | rfl : i = 0 ∨ i = 1 := by omega
        all_goals rfl
      have hbx : bxI src i 11 = bxI src (i + 1) 0 := by
        obtain rfl | rfl : i = 0 ∨ i = 1 := by omega
        all_goals rfl
      have f1 : ilt (i : Int) 2 = true := ilt_t (by omega)
      have p7 : (i : Int) < 2 := by omega
      have wi : IntKind.i64.wrap ((i : Int) + 1) = ((i + 1 : Nat) : Int) := wrap_succ (by omega)
      obtain ⟨rr, hrl, hrt, hrc⟩ : ∃ rr : List (List V), rr.length = n ∧ rr[to]? = some [.bool true] ∧ TabOK Try.prog (H1 16 [.agg [.list 1 (if i = 0 then CA else CB)], .int .i64 src] (.list 1 rr)) := by
        obtain rfl | rfl : i = 0 ∨ i = 1 := by omega
        · exact ⟨rr0, hl0, ht0, c2'⟩
        · exact ⟨rr1, hl1, ht1, c3'⟩
      obtain ⟨m, hm⟩ : ∃ o, cnI i 0 = o := ⟨_, rfl⟩
      obtain ⟨OM, hOM⟩ : ∃ o, ouM l m = o := ⟨_, rfl⟩
      obtain ⟨BX, hBX⟩ : ∃ o, bxI src i 0 = o := ⟨_, rfl⟩
      have hl4 := loop4 l CA CB src to rr i hlt hN hok (by omega) (by omega) (by omega) (by omega) (by simpa using hrt)
      simp only [ar3, hcn, hbx, hm, hOM, hBX] at hl4
      rw [hm, hOM, hBX] at hst
      replace hOM : Hid (_) := hOM
      replace hBX : Hid (_) := hBX
      replace hm : Hid (_) := hm
      replace hl4 : Hid (_) := hl4
      refine cut (K := fun s => ar2 CA CB (rwL 160 l src 11) (rwL 161 l src 11) src to i m OM BX s ∧ ar4 s) ?_ ?_
      · obtain ⟨e, h⟩ := st
        simp only [ar2, ar4] at hst
        refine CW.of_cx (D := (fun id => if id = 13 then some ⟨[(13, 11), (15, 11), (5004, 79)], [7, 9]⟩ else none)) noTab_ok mixed _ _ _ (by kernel_rfl) ?_
        repeat' first
          | (with_reducible refine gw_bool (fun _ => ?_) (fun _ => ?_))
          | (with_reducible refine condw_bool (fun _ => ?_) (fun _ => ?_))
          | simp [*, ar2, ar4]
      clear hst st
      intro st hst
      refine cut (K := fun s => (ar2 CA CB (rwL 160 l src 11) (rwL 161 l src 11) src to i (cnI (i + 1) 0) (ouM l (cnI (i + 1) 0)) (bxI src (i + 1) 0) s ∧ ar4 s) ∧ s.env 22 = .list 1 rr ∧ s.env 23 = .int .i64 (11 : Nat)) ?_ ?_
      · refine cw_block ?_
        refine cut (K := fun s => (ar2 CA CB (rwL 160 l src 11) (rwL 161 l src 11) src to i m OM BX s ∧ ar4 s) ∧ s.env 22 = .list 1 rr) ?_ ?_
        · obtain ⟨e, h⟩ := st
          simp only [ar2, ar4] at hst
          refine CW.of_cx (D := fun _ => none) hrc mixed _ _ _ (by kernel_rfl) ?_
          obtain rfl | rfl : i = 0 ∨ i = 1 := by omega
          · skip
            repeat' first
              | (with_reducible refine gw_bool (fun _ => ?_) (fun _ => ?_))
              | (with_reducible refine condw_bool (fun _ => ?_) (fun _ => ?_))
              | simp [*, ar2, ar4]
          · skip
            repeat' first
              | (with_reducible refine gw_bool (fun _ => ?_) (fun _ => ?_))
              | (with_reducible refine condw_bool (fun _ => ?_) (fun _ => ?_))
              | simp [*, ar2, ar4]
        clear hst st
        intro st hst
        refine cut (K := fun s => (ar2 CA CB (rwL 160 l src 11) (rwL 161 l src 11) src to i m OM BX s ∧ ar4 s) ∧ s.env 22 = .list 1 rr ∧ s.env 23 = .int .i64 (0 : Nat)) ?_ ?_
        · obtain ⟨e, h⟩ := st
          simp only [ar2, ar4] at hst
          refine CW.of_cx (D := (fun id => if id = 13 then some ⟨[(13, 11), (15, 11), (5004, 79)], [7, 9]⟩ else none)) noTab_ok mixed _ _ _ (by kernel_rfl) ?_
          repeat' first
            | (with_reducible refine gw_bool (fun _ => ?_) (fun _ => ?_))
            | (with_reducible refine condw_bool (fun _ => ?_) (fun _ => ?_))
            | simp [*, ar2, ar4]
        clear hst st
        intro st hst
        refine (hl4.out _ (by kernel_rfl) st hst).mono ?_
        rintro e s ⟨rfl, hs⟩
        exact ⟨rfl, hs⟩
      clear hst st
      rintro ⟨e, h⟩ hst
      simp only [ar2, ar4] at hst
      obtain ⟨m', hm'⟩ : ∃ o, cnI (i + 1) 0 = o := ⟨_, rfl⟩
      obtain ⟨OM', hOM'⟩ : ∃ o, ouM l m' = o := ⟨_, rfl⟩
      obtain ⟨BX', hBX'⟩ : ∃ o, bxI src (i + 1) 0 = o := ⟨_, rfl⟩
      rw [hm', hOM', hBX'] at hst
      replace hm' : Hid (_) := hm'
      replace hOM' : Hid (_) := hOM'
      replace hBX' : Hid (_) := hBX'
      clear hcn hbx
      refine CW.of_cx (D := (fun id => if id = 13 then some ⟨[(13, 11), (15, 11), (5004, 79)], [7, 9]⟩ else none)) noTab_ok mixed _ _ _ (by kernel_rfl) ?_
      repeat' first
        | (with_reducible refine gw_bool (fun _ => ?_) (fun _ => ?_))
        | (with_reducible refine condw_bool (fun _ => ?_) (fun _ => ?_))
        | simp [*]
      refine ⟨i + 1, _, View.refl _ _, ⟨by omega, ?_⟩, by show 2 - (i + 1) < 2 - i; omega⟩
      rw [hm'.out, hOM'.out, hBX'.out]
      simp [*, ar2, ar4]
    · have e1 : i = 2 := by omega
      subst e1
      refine cw_seq ?_
      obtain ⟨e, h⟩ := st
      simp only [ar2, ar4] at hst
      refine CW.of_cx (D := (fun id => if id = 13 then some ⟨[(13, 11), (15, 11), (5004, 79)], [7, 9]⟩ else none)) noTab_ok mixed _ _ _ (by kernel_rfl) ?_
      repeat' first
        | (with_reducible refine gw_bool (fun _ => ?_) (fun _ => ?_))
        | (with_reducible refine condw_bool (fun _ => ?_) (fun _ => ?_))
        | simp [*, ar2, ar4, cnI]
  clear k2 k8 k9 k10 k11 k19 k20 g20 g154 g4 st
  rintro ⟨e, h⟩ hk
  simp only [ar2] at hk
  have hoc := ouM_chunks hN
  have hol := ouM_len l (m := 11) (by omega)
  have hop := ouM_pure l 11
  generalize ouM l 11 = OM at *
  simp [chunks] at hoc
  refine CW.of_cx (D := (fun id => if id = 13 then some ⟨[(13, 11), (15, 11), (5004, 79)], [7, 9]⟩ else none)) noTab_ok mixed _ _ _ (by kernel_rfl) ?_
  repeat' first
    | (with_reducible refine gw_bool (fun _ => ?_) (fun _ => ?_))
    | (with_reducible refine condw_bool (fun _ => ?_) (fun _ => ?_))
    | simp [*]
end Go.Proofs.Ytongalkfcfkfiaa
end
section
namespace Go.Proofs.Ytongalkfcfkfiaa
open Go.Pv Go.RowKit
set_option linter.unusedSimpArgs false
set_option linter.unusedVariables false
set_option maxRecDepth 100000
set_option maxHeartbeats 4000000

def cAnyY (Γ : Tab) (ops : Array Oper) (N : Nat) (K : St → Prop) : Nat → Array Bool → St → Prop
  | 0, listed, st => Region.ready .any ops listed = [] ∧ K st
  | fuel + 1, listed, st => ((Region.ready .any ops listed = [] → K st) ∧ ∀ i ∈ Region.ready .any ops listed, cOpX Γ ops i (cAnyY Γ ops N K fuel (listed.setIfInBounds i true)) st) ∨ ∃ st', View N st st' ∧ cAnyX Γ ops K (fuel + 1) listed st'
theorem wpAny_of_cAnyY {Γ : Tab} (hΓ : TabOK Try.prog Γ) {n : Nat} {w0 : Base} {ops : Array Oper} (hf : ops.toList.all (fun o => fits n o.dst) = true) {K : St → Prop} {Q : Exit → Act → World → Prop} {ro0 : Nat → Prop} (hQ : ∀ a' ro' lam' w' st', Ext w0 ro0 ro' → Sim w0 n ro' lam' st' a' w' → K st' → Q .normal a' w') :
    ∀ (fuel : Nat) (listed : Array Bool) (st : St) (ro : Nat → Prop) (lam : Lam) (a : Act) (w : World), Ext w0 ro0 ro → Sim w0 n ro lam st a w → cAnyY Γ ops n K fuel listed st → wpAny Try.prog .any ops Q fuel listed a w
  | 0, listed, st, ro, lam, a, w, hext, hs, h => ⟨h.1, hQ _ _ _ _ _ hext hs h.2⟩
  | fuel + 1, listed, st, ro, lam, a, w, hext, hs, h => by
    rcases h with h | ⟨st', hv, h⟩
    · refine ⟨fun h0 => hQ _ _ _ _ _ hext hs (h.1 h0), fun i hi => ?_⟩
      have h1 := h.2 i hi
      unfold cOpX at h1
      unfold wpOp
      split
      · rename_i ho
        simp only [ho] at h1
        exact wpAny_of_cAnyY hΓ hf hQ fuel _ st ro lam a w hext hs h1
      · rename_i o ho
        simp only [ho] at h1
        have hfo : fits n o.dst = true := List.all_eq_true.1 hf o (List.mem_of_getElem? (i := i) (by simpa using ho))
        unfold egX gw at h1
        cases hw : wantV ops st o.guard with
        | none => rw [hw] at h1; exact h1.elim
        | some b =>
          rw [hw] at h1
          rw [wantV_sound hs hw]
          cases b with
          | true =>
            rw [if_pos rfl]
            exact .inl (swX_sound hΓ hs hfo h1 fun st' a' ro' lam' w' k hx hs' => wpAny_of_cAnyY hΓ hf hQ fuel _ st' ro' lam' a' w' (hext.trans hx) hs' k)
          | false =>
            rw [if_neg (by simp)]
            exact wpAny_of_cAnyY hΓ hf hQ fuel _ _ ro lam _ w hext (hs.put hfo (.pure _ _ .undef)) h1
    · obtain ⟨ro', lam', hx, hs'⟩ := hv _ _ _ _ _ hs
      exact wpAny_of_cAnyX hΓ hf hQ (fuel + 1) listed st' ro' lam' a w (hext.trans hx) hs' h
theorem cw_anyY {Γ : Tab} (hΓ : TabOK Try.prog Γ) {n id : Nat} {ops : Array Oper} {Q : Exit → St → Prop} {st : St} (hf : ops.toList.all (fun o => fits n o.dst) = true) (m : Nat) (hm : ops.size = m) (h : ∀ (K : St → Prop), Hid (∀ s, Q .normal s → K s) → cAnyY Γ ops n K m (Array.replicate m false) st) : CW Try.prog n (.region id ops true) Q st := by
  subst hm
  intro w0 ro lam a w hs
  have hs' : Sim w0 n ro lam st a { w with drawn := w.drawn + 1 } := hs.world ((Below.refl _ _).drew)
  exact wp_region_any mixed (wpAny_of_cAnyY hΓ hf (fun a' ro' lam' w' s hext hs hk => ⟨s, ro', lam', hk, hext, hs⟩) _ _ st ro lam a _ (Ext.refl _ _) hs' (h (Q .normal) (fun s hs => hs)))
theorem cany1y {Γ : Tab} {ops : Array Oper} {N : Nat} {K : St → Prop} {fuel : Nat} {listed : Array Bool} {st : St} (i : Nat) {o : Oper} (hl : Region.ready .any ops listed = [i]) (ho : ops[i]? = some o) (h : egX Try.prog Γ ops [o] (cAnyY Γ ops N K fuel (listed.setIfInBounds i true)) st) : cAnyY Γ ops N K (fuel + 1) listed st :=
  .inl ⟨fun e => (by rw [hl] at e; cases e), fun k hk => by
    rw [hl] at hk
    simp only [List.mem_cons, List.not_mem_nil, or_false] at hk
    subst hk
    unfold cOpX; simp only [ho]; exact h⟩
theorem cany2y {Γ : Tab} {ops : Array Oper} {N : Nat} {K : St → Prop} {fuel : Nat} {listed : Array Bool} {st : St} (i j : Nat) {o o2 : Oper} (hl : Region.ready .any ops listed = [i, j]) (ho : ops[i]? = some o) (ho2 : ops[j]? = some o2) (h : egX Try.prog Γ ops [o] (cAnyY Γ ops N K fuel (listed.setIfInBounds i true)) st) (h2 : egX Try.prog Γ ops [o2] (cAnyY Γ ops N K fuel (listed.setIfInBounds j true)) st) : cAnyY Γ ops N K (fuel + 1) listed st :=
  .inl ⟨fun e => (by rw [hl] at e; cases e), fun k hk => by
    rw [hl] at hk
    simp only [List.mem_cons, List.not_mem_nil, or_false] at hk
    rcases hk with rfl | rfl
    · unfold cOpX; simp only [ho]; exact h
    · unfold cOpX; simp only [ho2]; exact h2⟩
theorem cany3y {Γ : Tab} {ops : Array Oper} {N : Nat} {K : St → Prop} {fuel : Nat} {listed : Array Bool} {st : St} (i j l : Nat) {o o2 o3 : Oper} (hl : Region.ready .any ops listed = [i, j, l]) (ho : ops[i]? = some o) (ho2 : ops[j]? = some o2) (ho3 : ops[l]? = some o3) (h : egX Try.prog Γ ops [o] (cAnyY Γ ops N K fuel (listed.setIfInBounds i true)) st) (h2 : egX Try.prog Γ ops [o2] (cAnyY Γ ops N K fuel (listed.setIfInBounds j true)) st) (h3 : egX Try.prog Γ ops [o3] (cAnyY Γ ops N K fuel (listed.setIfInBounds l true)) st) : cAnyY Γ ops N K (fuel + 1) listed st :=
  .inl ⟨fun e => (by rw [hl] at e; cases e), fun k hk => by
    rw [hl] at hk
    simp only [List.mem_cons, List.not_mem_nil, or_false] at hk
    rcases hk with rfl | rfl | rfl
    · unfold cOpX; simp only [ho]; exact h
    · unfold cOpX; simp only [ho2]; exact h2
    · unfold cOpX; simp only [ho3]; exact h3⟩
theorem cany4y {Γ : Tab} {ops : Array Oper} {N : Nat} {K : St → Prop} {fuel : Nat} {listed : Array Bool} {st : St} (i j l m : Nat) {o o2 o3 o4 : Oper} (hl : Region.ready .any ops listed = [i, j, l, m]) (ho : ops[i]? = some o) (ho2 : ops[j]? = some o2) (ho3 : ops[l]? = some o3) (ho4 : ops[m]? = some o4) (h : egX Try.prog Γ ops [o] (cAnyY Γ ops N K fuel (listed.setIfInBounds i true)) st) (h2 : egX Try.prog Γ ops [o2] (cAnyY Γ ops N K fuel (listed.setIfInBounds j true)) st) (h3 : egX Try.prog Γ ops [o3] (cAnyY Γ ops N K fuel (listed.setIfInBounds l true)) st) (h4 : egX Try.prog Γ ops [o4] (cAnyY Γ ops N K fuel (listed.setIfInBounds m true)) st) : cAnyY Γ ops N K (fuel + 1) listed st :=
  .inl ⟨fun e => (by rw [hl] at e; cases e), fun k hk => by
    rw [hl] at hk
    simp only [List.mem_cons, List.not_mem_nil, or_false] at hk
    rcases hk with rfl | rfl | rfl | rfl
    · unfold cOpX; simp only [ho]; exact h
    · unfold cOpX; simp only [ho2]; exact h2
    · unfold cOpX; simp only [ho3]; exact h3
    · unfold cOpX; simp only [ho4]; exact h4⟩
theorem cany5y {Γ : Tab} {ops : Array Oper} {N : Nat} {K : St → Prop} {fuel : Nat} {listed : Array Bool} {st : St} (i j l m p : Nat) {o o2 o3 o4 o5 : Oper} (hl : Region.ready .any ops listed = [i, j, l, m, p]) (ho : ops[i]? = some o) (ho2 : ops[j]? = some o2) (ho3 : ops[l]? = some o3) (ho4 : ops[m]? = some o4) (ho5 : ops[p]? = some o5) (h : egX Try.prog Γ ops [o] (cAnyY Γ ops N K fuel (listed.setIfInBounds i true)) st) (h2 : egX Try.prog Γ ops [o2] (cAnyY Γ ops N K fuel (listed.setIfInBounds j true)) st) (h3 : egX Try.prog Γ ops [o3] (cAnyY Γ ops N K fuel (listed.setIfInBounds l true)) st) (h4 : egX Try.prog Γ ops [o4] (cAnyY Γ ops N K fuel (listed.setIfInBounds m true)) st) (h5 : egX Try.prog Γ ops [o5] (cAnyY Γ ops N K fuel (listed.setIfInBounds p true)) st) : cAnyY Γ ops N K (fuel + 1) listed st :=
  .inl ⟨fun e => (by rw [hl] at e; cases e), fun k hk => by
    rw [hl] at hk
    simp only [List.mem_cons, List.not_mem_nil, or_false] at hk
    rcases hk with rfl | rfl | rfl | rfl | rfl
    · unfold cOpX; simp only [ho]; exact h
    · unfold cOpX; simp only [ho2]; exact h2
    · unfold cOpX; simp only [ho3]; exact h3
    · unfold cOpX; simp only [ho4]; exact h4
    · unfold cOpX; simp only [ho5]; exact h5⟩
theorem cany6y {Γ : Tab} {ops : Array Oper} {N : Nat} {K : St → Prop} {fuel : Nat} {listed : Array Bool} {st : St} (i j l m p q : Nat) {o o2 o3 o4 o5 o6 : Oper} (hl : Region.ready .any ops listed = [i, j, l, m, p, q]) (ho : ops[i]? = some o) (ho2 : ops[j]? = some o2) (ho3 : ops[l]? = some o3) (ho4 : ops[m]? = some o4) (ho5 : ops[p]? = some o5) (ho6 : ops[q]? = some o6) (h : egX Try.prog Γ ops [o] (cAnyY Γ ops N K fuel (listed.setIfInBounds i true)) st) (h2 : egX Try.prog Γ ops [o2] (cAnyY Γ ops N K fuel (listed.setIfInBounds j true)) st) (h3 : egX Try.prog Γ ops [o3] (cAnyY Γ ops N K fuel (listed.setIfInBounds l true)) st) (h4 : egX Try.prog Γ ops [o4] (cAnyY Γ ops N K fuel (listed.setIfInBounds m true)) st) (h5 : egX Try.prog Γ ops [o5] (cAnyY Γ ops N K fuel (listed.setIfInBounds p true)) st) (h6 : egX Try.prog Γ ops [o6] (cAnyY Γ ops N K fuel (listed.setIfInBounds q true)) st) : cAnyY Γ ops N K (fuel + 1) listed st :=
  .inl ⟨fun e => (by rw [hl] at e; cases e), fun k hk => by
    rw [hl] at hk
    simp only [List.mem_cons, List.not_mem_nil, or_false] at hk
    rcases hk with rfl | rfl | rfl | rfl | rfl | rfl
    · unfold cOpX; simp only [ho]; exact h
    · unfold cOpX; simp only [ho2]; exact h2
    · unfold cOpX; simp only [ho3]; exact h3
    · unfold cOpX; simp only [ho4]; exact h4
    · unfold cOpX; simp only [ho5]; exact h5
    · unfold cOpX; simp only [ho6]; exact h6⟩
noncomputable def H2 (f : FuncId) (vs : List V) (u : V) (g : FuncId) (ws : List V) (v : V) : Tab := add f (T1 vs u) (H1 g ws v)
theorem H2_at (f : FuncId) (vs : List V) (u : V) (g : FuncId) (ws : List V) (v : V) (k : FuncId) (xs : List V) : (H2 f vs u g ws v).at' k xs = if k = f then T1 vs u xs else (H1 g ws v).at' k xs := rfl
theorem H2_fr (f : FuncId) (vs : List V) (u : V) (g : FuncId) (ws : List V) (v : V) (k : FuncId) : (H2 f vs u g ws v).fr k = if k = f then false else (H1 g ws v).fr k := rfl
theorem H2_gb (f : FuncId) (vs : List V) (u : V) (g : FuncId) (ws : List V) (v : V) (k : FuncId) : (H2 f vs u g ws v).gb k = noTab.gb k := rfl
theorem H2_gv (f : FuncId) (vs : List V) (u : V) (g : FuncId) (ws : List V) (v : V) (k : FuncId) (xs : List V) : (H2 f vs u g ws v).gv k xs = noTab.gv k xs := rfl
attribute [simp] H2_at H2_fr H2_gb H2_gv
theorem H2_ok {f : FuncId} {vs : List V} {u : V} {g : FuncId} {ws : List V} {v : V} (h : PCall Try.prog f vs u) (hc : callable Try.prog f = true) (k : PCall Try.prog g ws v) (kc : callable Try.prog g = true) : TabOK Try.prog (H2 f vs u g ws v) :=
  add_ok (H1_ok k kc) hc fun xs w hw => by
    unfold T1 at hw
    split at hw
    · rename_i e; cases hw; rw [e]; exact h
    · cases hw
end Go.Proofs.Ytongalkfcfkfiaa
end
