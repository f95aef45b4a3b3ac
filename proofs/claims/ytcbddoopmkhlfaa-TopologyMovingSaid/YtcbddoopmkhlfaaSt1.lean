/-
  Stations: names, ranges, links: what the small functions answer.
-/
import Derived.Test.YtcbddoopmkhlfaaTd
import Derived.Test.YtcbddoopmkhlfaaPv20
namespace Go.Proofs.Ytcbddoopmkhlfaa
open Go.Pv Go.RowKit
set_option linter.unusedSimpArgs false
set_option linter.unusedVariables false
set_option maxRecDepth 100000
set_option maxHeartbeats 4000000

theorem td125 : td Try.prog 125 = some { size := 1, bytes := 8, agg := false, strct := false, zero := some [.junk], fields := [], arr := none, slc := none, int := none, isBool := false, isStr := false, eqg := false } := by kernel_rfl
theorem mtd125 : mtd Try.prog 125 = true := by kernel_rfl
attribute [simp] td125 mtd125

/-! ### names -/
def letF (c : Int) : Bool := (!ilt c 65 && !ilt 90 c) || (!ilt c 97 && !ilt 122 c)
def othF (c : Int) : Bool := (!ilt c 48 && !ilt 57 c) || ieq c 95
def badC (i : Int) (c : Int) : Bool := !letF c && (ieq i 0 || !othF c)
def chN (s : ByteArray) (i : Nat) : Int := ((s[i]?).map (fun c => (c.toNat : Int))).getD 0
def gdN (s : ByteArray) (i : Nat) : Bool := !badC i (chN s i)
def nameF (s : ByteArray) : Bool := !ieq (s.size : Int) 0 && !ilt 12 (s.size : Int) && (List.range s.size).all (gdN s)
theorem ba_at {s : ByteArray} {i : Nat} (h : i < s.size) : s[i]? = some (s[i]'h) := getElem?_pos s i h
theorem name_ok (s : ByteArray) : PCall Try.prog 67 [.str s] (.bool (nameF s)) := by
  obtain ⟨n, hn⟩ : ∃ n, s.size = n := ⟨_, rfl⟩
  cases b1 : ieq (n : Int) 0
  · cases b2 : ilt 12 (n : Int)
    · have hok : nameF s = (List.range n).all (gdN s) := by simp [nameF, hn, b1, b2]
      have hn12 : n ≤ 12 := by have := ilt_iff'.1 b2; omega
      rw [hok]
      refine pcall_cx noTab_ok mixed (fun _ => none) Try.func67 rfl Try.ntmps67 Try.results67 (by simp) (by kernel_rfl) ?_
      repeat' first
        | (with_reducible refine gw_bool (fun _ => ?_) (fun _ => ?_))
        | (with_reducible refine condw_bool (fun _ => ?_) (fun _ => ?_))
        | simp [*]
      refine lp_go (D := (fun _ => none)) noTab_ok mixed (by kernel_rfl) [0, 16] [] (α := Nat) (fun i e h => i ≤ n ∧ e 17 = .int .i64 i ∧ Hid ((List.range i).all (gdN s) = true)) (fun i => n - i) 0 ?_ ?_
      · exact ⟨by omega, rfl, show _ = _ by simp⟩
      · rintro i e h hk hkh ⟨hi, g7, hinv⟩
        simp [Keep] at hk
        simp [KeepH] at hkh
        by_cases hlt : i < n
        · have hx := ba_at (s := s) (i := i) (by omega)
          obtain ⟨c, hc⟩ : ∃ c, s[i]'(by omega) = c := ⟨_, rfl⟩
          rw [hc] at hx
          obtain ⟨z, hz⟩ : ∃ z : Int, (c.toNat : Int) = z := ⟨_, rfl⟩
          have f1 : ilt (i : Int) (n : Int) = true := ilt_t (by omega)
          have w1 : IntKind.i64.wrap ((i : Int) + 1) = ((i + 1 : Nat) : Int) := wrap_succ (by omega)
          have hg : gdN s i = !badC i z := by simp [gdN, chN, hx, hz]
          have hnext : (List.range (i + 1)).all (gdN s) = gdN s i := by
            rw [List.range_succ, List.all_append, hinv.out]; simp
          have hbu : badC i z = (!letF z && (ieq i 0 || !othF z)) := rfl
          cases hb : badC i z
          · have hq : Hid ((List.range (i + 1)).all (gdN s) = true) := by rw [hg, hb] at hnext; exact hnext
            rw [hb] at hbu
            clear hinv hnext hg hb
            unfold letF othF at hbu
            replace hbu : Hid (false = (!((!ilt z 65 && !ilt 90 z) || (!ilt z 97 && !ilt 122 z)) && (ieq (i : Int) 0 || !((!ilt z 48 && !ilt 57 z) || ieq z 95)))) := hbu
            repeat' first
              | (with_reducible refine gw_bool (fun _ => ?_) (fun _ => ?_))
              | (with_reducible refine condw_bool (fun _ => ?_) (fun _ => ?_))
              | simp [*]
            all_goals first
              | (exfalso; have hbu := hbu.out; simp [*] at hbu; done)
              | skip
            all_goals refine nxt_go (i + 1) (View.refl _ _) (by omega) (by simp [*, Keep, St.forget, scr, scrC]) (by simp [*, KeepH, St.forget, scr, scrC]) ?_
            all_goals (refine ⟨by omega, ?_, hq⟩; simp [*])
          · have hall : (List.range n).all (gdN s) = false := by
              rw [Bool.eq_false_iff]
              intro hc
              have := List.all_eq_true.1 hc i (by simpa using hlt)
              rw [hg, hb] at this; cases this
            rw [hb] at hbu
            clear hinv hnext hg hb
            unfold letF othF at hbu
            replace hbu : Hid (true = (!((!ilt z 65 && !ilt 90 z) || (!ilt z 97 && !ilt 122 z)) && (ieq (i : Int) 0 || !((!ilt z 48 && !ilt 57 z) || ieq z 95)))) := hbu
            repeat' first
              | (with_reducible refine gw_bool (fun _ => ?_) (fun _ => ?_))
              | (with_reducible refine condw_bool (fun _ => ?_) (fun _ => ?_))
              | simp [*]
            all_goals (exfalso; have hbu := hbu.out; simp [*] at hbu; done)
        · have f1 : ilt (i : Int) (n : Int) = false := ilt_f (by omega)
          have e1 : i = n := by omega
          have hall : (List.range n).all (gdN s) = true := by
            have := hinv.out
            rwa [e1] at this
          clear hinv
          repeat' first
            | (with_reducible refine gw_bool (fun _ => ?_) (fun _ => ?_))
            | (with_reducible refine condw_bool (fun _ => ?_) (fun _ => ?_))
            | simp [*]
    · have hok : nameF s = false := by simp [nameF, hn, b1, b2]
      refine pcall_cx noTab_ok mixed (fun _ => none) Try.func67 rfl Try.ntmps67 Try.results67 (by simp) (by kernel_rfl) ?_
      repeat' first
        | (with_reducible refine gw_bool (fun _ => ?_) (fun _ => ?_))
        | (with_reducible refine condw_bool (fun _ => ?_) (fun _ => ?_))
        | simp [*]
  · have hok : nameF s = false := by simp [nameF, hn, b1]
    refine pcall_cx noTab_ok mixed (fun _ => none) Try.func67 rfl Try.ntmps67 Try.results67 (by simp) (by kernel_rfl) ?_
    repeat' first
      | (with_reducible refine gw_bool (fun _ => ?_) (fun _ => ?_))
      | (with_reducible refine condw_bool (fun _ => ?_) (fun _ => ?_))
      | simp [*]
def Tname : List V → Option V
  | [.str s] => some (.bool (nameF s))
  | _ => none
/-! ### ranges -/
def withinF (n lo hi : Int) : Bool := !ilt n lo && !ilt hi n
def Twithin : List V → Option V
  | [.int .i64 n, .int .i64 lo, .int .i64 hi] => some (.bool (withinF n lo hi))
  | _ => none
theorem within_ok (n lo hi : Int) : PCall Try.prog 90 [.int .i64 n, .int .i64 lo, .int .i64 hi] (.bool (withinF n lo hi)) := by
  refine pcall_cx noTab_ok mixed (fun _ => none) Try.func90 rfl Try.ntmps90 Try.results90 (by simp) (by kernel_rfl) ?_
  repeat' first
    | (with_reducible refine gw_bool (fun _ => ?_) (fun _ => ?_))
    | (with_reducible refine condw_bool (fun _ => ?_) (fun _ => ?_))
    | simp [*, withinF]
def C1 : Tab := add 67 Tname (add 90 Twithin (noTab))
theorem C1_at (f : FuncId) (vs : List V) : C1.at' f vs = if f = 67 then Tname vs else if f = 90 then Twithin vs else noTab.at' f vs := rfl
theorem C1_fr (f : FuncId) : C1.fr f = if f = 67 then false else if f = 90 then false else noTab.fr f := rfl
theorem C1_gb (f : FuncId) : C1.gb f = noTab.gb f := rfl
theorem C1_gv (f : FuncId) (vs : List V) : C1.gv f vs = noTab.gv f vs := rfl
attribute [simp] C1_at C1_fr C1_gb C1_gv Tname Twithin
theorem C1_ok : TabOK Try.prog C1 := by
  refine add_ok (add_ok (noTab_ok) (by kernel_rfl) ?_) (by kernel_rfl) ?_
  · intro vs v h; unfold Twithin at h; split at h
    · cases h; apply within_ok
    · cases h
  · intro vs v h; unfold Tname at h; split at h
    · cases h; apply name_ok
    · cases h
def impF (r x : Int) : Bool := withinF r 0 1000 && withinF x 1 1000
def Timp : List V → Option V
  | [.agg [.int .i64 r, .int .i64 x]] => some (.bool (impF r x))
  | _ => none
theorem imp_ok (r x : Int) : PCall Try.prog 89 [.agg [.int .i64 r, .int .i64 x]] (.bool (impF r x)) := by
  refine pcall_cx C1_ok mixed (fun _ => none) Try.func89 rfl Try.ntmps89 Try.results89 (by simp) (by kernel_rfl) ?_
  repeat' first
    | (with_reducible refine gw_bool (fun _ => ?_) (fun _ => ?_))
    | (with_reducible refine condw_bool (fun _ => ?_) (fun _ => ?_))
    | simp [*, impF]
def C2 : Tab := add 89 Timp (C1)
theorem C2_at (f : FuncId) (vs : List V) : C2.at' f vs = if f = 89 then Timp vs else C1.at' f vs := rfl
theorem C2_fr (f : FuncId) : C2.fr f = if f = 89 then false else C1.fr f := rfl
theorem C2_gb (f : FuncId) : C2.gb f = C1.gb f := rfl
theorem C2_gv (f : FuncId) (vs : List V) : C2.gv f vs = C1.gv f vs := rfl
attribute [simp] C2_at C2_fr C2_gb C2_gv Timp
theorem C2_ok : TabOK Try.prog C2 := by
  refine add_ok (C1_ok) (by kernel_rfl) ?_
  · intro vs v h; unfold Timp at h; split at h
    · cases h; apply imp_ok
    · cases h
structure Lk where
  bus : Int
  pos : Int
def Lk.cs (l : Lk) : List V := [.int .i64 l.bus, .int .i64 l.pos]
def unLk : List V → Option Lk
  | [.int .i64 b, .int .i64 p] => some ⟨b, p⟩
  | _ => none
theorem unLk_cs (l : Lk) : unLk l.cs = some l := rfl
theorem unLk_inv : ∀ c a, unLk c = some a → c = Lk.cs a := by
  intro c a h; unfold unLk at h; split at h
  · cases h; rfl
  · cases h
structure Ln where
  nm : ByteArray
  r1 : Int
  x1 : Int
  r0 : Int
  x0 : Int
def Ln.cs (l : Ln) : List V := [.str l.nm, .int .i64 l.r1, .int .i64 l.x1, .int .i64 l.r0, .int .i64 l.x0]
structure Sr where
  nm : ByteArray
  emf : Int
  r1 : Int
  x1 : Int
  r0 : Int
  x0 : Int
def Sr.cs (l : Sr) : List V := [.str l.nm, .int .i64 l.emf, .int .i64 l.r1, .int .i64 l.x1, .int .i64 l.r0, .int .i64 l.x0]
structure By where
  nm : ByteArray
  kind : Int
  ob : Int
  en : Int
  zr : Int
  zx : Int
  lks : List Lk
  cl : Bool
  ct : Int
  vt : Int
  sat : Int
  tr : Int
def By.cs (b : By) : List V := [.str b.nm, .int .i64 b.kind, .int .i64 b.ob, .int .i64 b.en, .int .i64 b.zr, .int .i64 b.zx, .list 2 (b.lks.map Lk.cs), .bool b.cl, .int .i64 b.ct, .int .i64 b.vt, .int .i64 b.sat, .int .i64 b.tr]
def rngF (b : By) : Bool :=
  (if ieq b.kind 3 then impF b.zr b.zx && ieq b.vt 0 else (ieq b.zr 0 && ieq b.zx 0) && withinF b.vt 1 10000) &&
    (withinF b.en 0 (if ieq b.kind 1 then 1 else 0) && withinF b.ct 1 100 && withinF b.sat 0 16383 && withinF b.tr 1 6)
theorem ranges_ok (b : By) : PCall Try.prog 91 [.agg b.cs] (.bool (rngF b)) := by
  cases h1 : ieq b.kind 3
  · cases h3 : ieq b.zr 0 <;> cases h4 : ieq b.zx 0 <;> cases h5 : withinF b.vt 1 10000 <;> cases h2 : ieq b.kind 1
    all_goals
      refine pcall_cx C2_ok mixed (fun _ => none) Try.func91 rfl Try.ntmps91 Try.results91 (by simp) (by kernel_rfl) ?_
    all_goals
      repeat' first
        | (with_reducible refine gw_bool (fun _ => ?_) (fun _ => ?_))
        | (with_reducible refine condw_bool (fun _ => ?_) (fun _ => ?_))
        | simp [*, rngF, By.cs]
  · cases h3 : impF b.zr b.zx <;> cases h4 : ieq b.vt 0 <;> cases h2 : ieq b.kind 1
    all_goals
      refine pcall_cx C2_ok mixed (fun _ => none) Try.func91 rfl Try.ntmps91 Try.results91 (by simp) (by kernel_rfl) ?_
    all_goals
      repeat' first
        | (with_reducible refine gw_bool (fun _ => ?_) (fun _ => ?_))
        | (with_reducible refine condw_bool (fun _ => ?_) (fun _ => ?_))
        | simp [*, rngF, By.cs]
def unBy : List V → Option By
  | [.str nm, .int .i64 kind, .int .i64 ob, .int .i64 en, .int .i64 zr, .int .i64 zx, .list 2 ls, .bool cl, .int .i64 ct, .int .i64 vt, .int .i64 sat, .int .i64 tr] => (match decL unLk ls with
    | some lks => some ⟨nm, kind, ob, en, zr, zx, lks, cl, ct, vt, sat, tr⟩
    | none => none)
  | _ => none
theorem unBy_cs (b : By) : unBy b.cs = some b := by simp [unBy, By.cs, decL_map unLk_cs]
theorem unBy_inv : ∀ c a, unBy c = some a → c = By.cs a := by
  intro c a h; unfold unBy at h; split at h
  · split at h
    · rename_i lks h1
      cases h
      rw [decL_inv unLk_inv _ _ h1]; rfl
    · cases h
  · cases h
end Go.Proofs.Ytcbddoopmkhlfaa
