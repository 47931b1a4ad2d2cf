/- The texts ItA, ItB of the workplace, joined. -/
import Derived.Test.YtdflkbmpbblcfaaB5
import Derived.RangeFuncBox
import Derived.RangeFuncWrites
import Derived.RangeFuncCalls
import Derived.RangeFuncLeaves
import Derived.Shelf.Abstract
import Derived.WalkKit
import Derived.OwnWalkIn
import Derived.TacticsInMore
import Derived.LoopNIn
import Derived.LoopIn
import Derived.Maps.AppendAt
/-! Iterators: a domain's values, a list's; what collects them. -/
namespace Go.Proofs.Ytdflkbmpbblcfaa
open Go Go.RowKit Go.Shelf
set_option linter.unusedVariables false
set_option linter.unusedSimpArgs false
attribute [local go_sem] Oper.semAt_some

/-- What a round keeps: what lay below; cells of other elements than numbers and lists of numbers. -/
def KpE (n₀ : Nat) (W W' : World) : Prop := Below n₀ W W' ∧ ∀ (b : Nat) (c : Array Value) (e : TypeId) (fr : Nat × Nat), W.heap[b]? = some (.cells c e fr) → e ≠ 3 → e ≠ 23 → W'.heap[b]? = some (.cells c e fr)
theorem KpE.refl (n₀ : Nat) (W : World) : KpE n₀ W W := ⟨Below.refl _ _, fun _ _ _ _ h _ _ => h⟩
theorem KpE.trans {n₀ : Nat} {A B C : World} (h : KpE n₀ A B) (k : KpE n₀ B C) : KpE n₀ A C := ⟨h.1.trans k.1, fun b c e fr hb h1 h2 => k.2 b c e fr (h.2 b c e fr hb h1 h2) h1 h2⟩
/-- A list's values come, one by one. -/
def Gives (P : Program) (g : FuncId) (lb : Array Value) (n₀ : Nat) (w : World) (xs : List Int) : Prop := ∀ (F : Fence) (n : Nat), F.fn g → F.round = none → 1 ≤ n → SeqStopsK F n P g lb (fun x : Int => #[Value.int .i64 x]) (KpE n₀) (fun ys => ys = xs) (fun _ => True) xs.length w

/-- What memory holds of a list of numbers. -/
theorem rep_ints {w : World} {Z : Nat → Prop} {v : Value} {l : List Int} (h : Rep w Z v (ints l)) : ∃ (p : Option Addr) (cap : Nat), v = .slice p l.length cap ∧ (l ≠ [] → ∃ b off, p = some ⟨b, off, none⟩ ∧ b < w.heap.size ∧ ∀ j (hj : j < l.length), w.cell? ⟨b, off + j, none⟩ = some (.int .i64 l[j])) := by
  unfold ints at h
  generalize hp : PV.sl (l.map cI) = p at h
  cases h with
  | nilsl =>
    have : l = [] := by simpa using hp
    subst this; exact ⟨none, 0, rfl, fun h => absurd rfl h⟩
  | slE a cap hc =>
    have : l = [] := by simpa using hp
    subst this; exact ⟨some a, cap, rfl, fun h => absurd rfl h⟩
  | sl b off cap sz rows xs hz hb h1 h2 h3 h4 h5 h6 =>
    have hp : l.map cI = rows := by simpa using hp
    subst hp
    refine ⟨_, cap, by rw [List.length_map], fun _ => ⟨b, off, rfl, hb, fun j hj => ?_⟩⟩
    have e : (l.map cI).flatten = l.map (PV.int .i64) := flat1 _ l
    rw [e] at h6
    obtain ⟨v, hv, hr⟩ := h6.get (i := j) (b := .int .i64 l[j]) (by simp [hj])
    have := (h3 j v hv).1
    rw [this]
    cases hr; rfl
  | _ => cases hp
set_option maxRecDepth 100000 in
set_option maxHeartbeats 2000000 in
theorem values1_in (F : Fence) (n : Nat) (h7 : F.fn 57) (hro : F.round = none) (hn : 1 ≤ n) (l Bs o n₀ : Nat) (p : Option Addr) (cap : Nat) (zs : List Int) (hreach : zs.length * 8 ≤ 140737488351232) (J Jx : List Int → World → Prop)
    (hY : ∀ pre x W, J pre W → pre.length < zs.length → YieldAt F (n - 1) Try.prog l #[.int .i64 x] W fun e W' =>
      (e = .returned (.bool true) ∧ J (pre ++ [x]) W' ∧ KpE n₀ W W') ∨ (e = .returned (.bool false) ∧ Jx (pre ++ [x]) W'))
    (W : World) (hBs : W.cell? ⟨Bs, o, none⟩ = some (.slice p zs.length cap)) (hc : zs ≠ [] → ∃ b off, p = some ⟨b, off, none⟩ ∧ b < n₀ ∧ ∀ j (hj : j < zs.length), W.cell? ⟨b, off + j, none⟩ = some (.int .i64 zs[j])) (h0 : J [] W) :
    CallsIn F n Try.prog 57 #[.func (.yield l) #[] #[], .pointer (some ⟨Bs, o, none⟩)] W fun e W' => (∃ v, e = .returned v) ∧ ((∃ ys, ys = zs ∧ J ys W') ∨ (∃ pre, True ∧ Jx pre W')) := by
  refine callsIn_of_wp Try.func57 rfl h7 ?_ hro
  simp only [Try.ntmps57, List.size_toArray, List.length_cons, List.length_nil, Nat.reduceAdd, Nat.reduceSub, Array.replicate_succ, Array.replicate_zero, List.push_toArray, List.append_toArray, List.nil_append, List.cons_append]
  gi_wp2
  gi_loopw [7] (fun i wr => ∃ k : Nat, k ≤ zs.length ∧ i = .int .i64 k ∧ J (zs.take k) wr ∧ KpE n₀ W wr)
    (fun i _ => zs.length - (intOf i).toNat)
  case atStart => exact ⟨0, Nat.zero_le _, rfl, h0, KpE.refl _ _⟩
  case round =>
    obtain ⟨k, hk, rfl, hJs, hnx⟩ := hrel
    by_cases hlt : k < zs.length
    · obtain ⟨b, off, rfl, hb, hc⟩ := hc (fun e => by subst e; simp at hlt)
      have hcx : wr.cell? ⟨b, off + k, none⟩ = some (.int .i64 zs[k]) := (hnx.1.cell (p := ⟨b, off + k, none⟩) hb).trans (hc k hlt)
      obtain ⟨fn, tmps, assign, body, hy, hR⟩ := hY _ zs[k] wr hJs (by simp; omega)
      gi_wp2
      refine hR.mono ?_
      rintro e W3 (⟨rfl, hJ3, hk3⟩ | ⟨rfl, hJx3⟩)
      · gi_wp2
        go_roundw
        case rel => exact ⟨k + 1, by omega, by simp, by rw [List.take_succ_eq_append_getElem hlt]; exact hJ3, hnx.trans hk3⟩
        case measure => simp [intOf]; omega
      · gi_wp2
        refine bodyPost_ret (results_none rfl _ _ _) rfl ?_
        exact ⟨⟨_, rfl⟩, .inr ⟨_, trivial, hJx3⟩⟩
    · obtain rfl : k = zs.length := by omega
      rw [List.take_length] at hJs
      gi_wp2
      go_end0
      exact ⟨⟨_, rfl⟩, .inl ⟨_, rfl, hJs⟩⟩
/-- What memory holds of a domain. -/
theorem rep_dm {w : World} {Z : Nat → Prop} {v : Value} {d : List (Int × Int)} (h : Rep w Z v (dm d)) : ∃ (p : Option Addr) (cap : Nat), v = .slice p d.length cap ∧ (d ≠ [] → ∃ b off, p = some ⟨b, off, none⟩ ∧ b < w.heap.size ∧ ∀ j (hj : j < d.length), w.cell? ⟨b, off + j * 2, none⟩ = some (.int .i64 d[j].1) ∧ w.cell? ⟨b, off + j * 2 + 1, none⟩ = some (.int .i64 d[j].2)) := by
  unfold dm at h
  generalize hp : PV.sl (d.map cR) = p at h
  cases h with
  | nilsl =>
    have : d = [] := by simpa using hp
    subst this; exact ⟨none, 0, rfl, fun h => absurd rfl h⟩
  | slE a cap hc =>
    have : d = [] := by simpa using hp
    subst this; exact ⟨some a, cap, rfl, fun h => absurd rfl h⟩
  | sl b off cap sz rows xs hz hb h1 h2 h3 h4 h5 h6 =>
    have hp : d.map cR = rows := by simpa using hp
    subst hp
    refine ⟨_, cap, by rw [List.length_map], fun hne => ⟨b, off, rfl, hb, fun j hj => ?_⟩⟩
    have e : ∀ i, i < 2 → (d.map cR).flatten[j * 2 + i]? = (cR d[j])[i]? := fun i hi => flatten_get (sz := 2) (fun r hr => by obtain ⟨x, _, rfl⟩ := List.mem_map.1 hr; rfl) (by simp [hj]) i hi
    have one : ∀ i (x : Int), i < 2 → (cR d[j])[i]? = some (.int .i64 x) → w.cell? ⟨b, off + (j * 2 + i), none⟩ = some (.int .i64 x) := by
      intro i x hi hx
      obtain ⟨v, hv, hr⟩ := h6.get ((e i hi).trans hx)
      rw [(h3 _ v hv).1]
      cases hr; rfl
    exact ⟨one 0 _ (by decide) rfl, by have := one 1 _ (by decide) rfl; rwa [← Nat.add_assoc] at this⟩
  | _ => cases hp
set_option maxRecDepth 100000 in
set_option maxHeartbeats 4000000 in
theorem all1_in (F : Fence) (n : Nat) (h7 : F.fn 59) (hro : F.round = none) (hn : 1 ≤ n) (l Bs o n₀ : Nat) (p : Option Addr) (cap : Nat) (d : List (Int × Int)) (hin : InB d) (hreach : d.length * 16 ≤ 140737488351232) (J Jx : List Int → World → Prop)
    (hY : ∀ pre x W, J pre W → pre.length < ((vals d).take 4097).length → YieldAt F (n - 1) Try.prog l #[.int .i64 x] W fun e W' =>
      (e = .returned (.bool true) ∧ J (pre ++ [x]) W' ∧ KpE n₀ W W') ∨ (e = .returned (.bool false) ∧ Jx (pre ++ [x]) W'))
    (W : World) (hW : n₀ ≤ W.heap.size) (hJ : AbidesFrom W.heap.size J) (hBs : W.cell? ⟨Bs, o, none⟩ = some (.slice p d.length cap)) (hc : d ≠ [] → ∃ b off, p = some ⟨b, off, none⟩ ∧ b < n₀ ∧ ∀ j (hj : j < d.length), W.cell? ⟨b, off + j * 2, none⟩ = some (.int .i64 d[j].1) ∧ W.cell? ⟨b, off + j * 2 + 1, none⟩ = some (.int .i64 d[j].2)) (h0 : J [] W) :
    CallsIn F n Try.prog 59 #[.func (.yield l) #[] #[], .pointer (some ⟨Bs, o, none⟩)] W fun e W' => (∃ v, e = .returned v) ∧ ((∃ ys, ys = (vals d).take 4097 ∧ J ys W') ∨ (∃ pre, True ∧ Jx pre W')) := by
  refine callsIn_of_wp Try.func59 rfl h7 ?_ hro
  simp only [Try.ntmps59, List.size_toArray, List.length_cons, List.length_nil, Nat.reduceAdd, Nat.reduceSub, Array.replicate_succ, Array.replicate_zero, List.push_toArray, List.append_toArray, List.nil_append, List.cons_append]
  gi_wp2
  gi_loopw [3, 9] (fun c i wr => ∃ k : Nat, k ≤ d.length ∧ i = .int .i64 k ∧ c = .int .i64 ((vals (d.take k)).take 4097).length ∧ J ((vals (d.take k)).take 4097) wr ∧ KpE n₀ W wr)
    (fun _ i _ => d.length - (intOf i).toNat)
  case atStart => exact ⟨0, Nat.zero_le _, rfl, rfl, h0, KpE.refl _ _⟩
  case round =>
    obtain ⟨k, hk, rfl, rfl, hJs, hnx⟩ := hrel
    by_cases hlt : k < d.length
    · obtain ⟨b, off, rfl, hb, hc⟩ := hc (fun e => by subst e; simp at hlt)
      have hc1 : wr.cell? ⟨b, off + k * 2, none⟩ = some (.int .i64 d[k].1) := (hnx.1.cell (p := ⟨b, off + k * 2, none⟩) hb).trans (hc k hlt).1
      have hc2 : wr.cell? ⟨b, off + k * 2 + 1, none⟩ = some (.int .i64 d[k].2) := (hnx.1.cell (p := ⟨b, off + k * 2 + 1, none⟩) hb).trans (hc k hlt).2
      gi_wp2
      have hA : vals (d.take (k + 1)) = vals (d.take k) ++ rng d[k].1 d[k].2 := by
        rw [List.take_succ_eq_append_getElem hlt, vals, List.flatMap_append]; simp [vals]
      have hall : ∃ r, vals d = vals (d.take k) ++ rng d[k].1 d[k].2 ++ r := by
        refine ⟨vals (d.drop (k + 1)), ?_⟩
        rw [← hA]
        conv => lhs; rw [← List.take_append_drop (k + 1) d]
        rw [vals, List.flatMap_append]; rfl
      have hbd := hin d[k] (List.getElem_mem hlt)
      have hrl : (rng d[k].1 d[k].2).length = (d[k].2 + 1 - d[k].1).toNat := by simp [rng]
      have hrg : ∀ j (h : j < (rng d[k].1 d[k].2).length), (rng d[k].1 d[k].2)[j] = d[k].1 + j := fun j h => by simp [rng]
      generalize vals (d.take k) = A at *
      generalize d[k].1 = lo at *
      generalize d[k].2 = hi at *
      generalize hR : rng lo hi = R at *
      have hX : (wr.alloc (.cells #[.int .i64 lo, .int .i64 hi] 38)).heap[wr.heap.size]? = some (.cells #[.int .i64 lo, .int .i64 hi] 38 (0, 0)) := World.alloc_heap_new wr _
      have hJ1 : J (A.take 4097) (wr.alloc (.cells #[.int .i64 lo, .int .i64 hi] 38)) := hJ _ wr _ none hJs (World.grownBy_alloc wr _ none) (fun r e => by cases e)
      have hK1 : KpE n₀ W (wr.alloc (.cells #[.int .i64 lo, .int .i64 hi] 38)) := ⟨hnx.1.alloc (Nat.le_trans hW hnx.1.size) _, fun b c e fr hb h1 h2 => (Below.heap_alloc _ _ b (Array.getElem?_eq_some_iff.1 (hnx.2 b c e fr hb h1 h2)).1).trans (hnx.2 b c e fr hb h1 h2)⟩
      generalize wr.alloc (.cells #[.int .i64 lo, .int .i64 hi] 38) = W1 at *
      generalize hXe : wr.heap.size = X at *
      gi_loopw [3, 6] (fun c v wq => ∃ j : Nat, j ≤ R.length ∧ v = .int .i64 (lo + j) ∧ c = .int .i64 ((A ++ R.take j).take 4097).length ∧ J ((A ++ R.take j).take 4097) wq ∧ KpE n₀ W wq ∧ wq.heap[X]? = some (.cells #[.int .i64 lo, .int .i64 hi] 38 (0, 0)) ∧ (j = 0 ∨ (A ++ R.take j).length ≤ 4097))
        (fun c v _ => (hi + 1 - intOf v).toNat)
      case atStart => exact ⟨0, Nat.zero_le _, by simp, by simp, by simpa using hJ1, hK1, hX, .inl rfl⟩
      case round =>
        obtain ⟨j, hj, rfl, rfl, hJ2, hK2, hX2, hj4⟩ := hrel
        have hx2 : wr.cell? ⟨X, 1, none⟩ = some (Value.int .i64 hi) := by simp [World.cell?, hX2]
        by_cases hgo : j < R.length ∧ ((A ++ R.take j).take 4097).length ≤ 4096
        · obtain ⟨hjl, hle⟩ := hgo
          have hle2 : (A ++ R.take j).length ≤ 4096 := by rw [List.length_take] at hle; omega
          have e1 : (A ++ R.take j).take 4097 = A ++ R.take j := List.take_of_length_le (by omega)
          have e2 : (A ++ R.take (j + 1)).take 4097 = A ++ R.take j ++ [lo + j] := by
            rw [List.take_succ_eq_append_getElem hjl, hrg j hjl, ← List.append_assoc, List.take_of_length_le]
            rw [List.length_append]; simp only [List.length_singleton]; omega
          obtain ⟨r, hr⟩ := hall
          rw [e1] at hJ2 ⊢
          have hY2 := hY _ (lo + j) wr hJ2 (by
            rw [hr]
            simp only [List.length_take, List.length_append] at hle2 ⊢
            omega)
          have hlj : lo + j ≤ hi := by omega
          have e3 : (A ++ R.take (j + 1)).take 4097 = (A ++ R.take (j + 1)) := by rw [e2, List.take_succ_eq_append_getElem hjl, hrg j hjl, ← List.append_assoc]
          generalize hP : A ++ R.take j = pre at *
          obtain ⟨cn, hcn⟩ : ∃ cn, pre.length = cn := ⟨_, rfl⟩
          rw [hcn] at hle2 ⊢
          obtain ⟨fn, tmps, assign, body, hy, hR2⟩ := hY2
          gi_wp2
          refine hR2.mono ?_
          rintro e W3 (⟨rfl, hJ3, hk3⟩ | ⟨rfl, hJx3⟩)
          · gi_wp2
            go_roundw
            case rel => exact ⟨j + 1, by omega, by simp; omega, by rw [e2, List.length_append, hcn]; simp, by rw [e2]; exact hJ3, hK2.trans hk3, hk3.2 _ _ _ _ hX2 (by decide) (by decide), .inr (by rw [← e3, List.length_take]; omega)⟩
            case measure => simp [intOf]; omega
          · gi_wp2
            refine bodyPost_ret (results_none rfl _ _ _) rfl ?_
            exact ⟨⟨_, rfl⟩, .inr ⟨_, trivial, hJx3⟩⟩
        · have hend : (A ++ R.take j).take 4097 = (A ++ R).take 4097 := by
            by_cases h1 : j < R.length
            · have h2 : 4097 ≤ (A ++ R.take j).length := by
                have h3 : ¬ ((A ++ R.take j).take 4097).length ≤ 4096 := fun h => hgo ⟨h1, h⟩
                rw [List.length_take] at h3; omega
              have h4 : A ++ R = A ++ R.take j ++ R.drop j := by rw [List.append_assoc, List.take_append_drop]
              rw [h4, List.take_append_of_le_length h2]
            · rw [show R.take j = R from List.take_of_length_le (by omega)]
          have hex : ¬ (lo + j ≤ hi ∧ (((A ++ R).take 4097).length : Int) ≤ 4096) := by
            rintro ⟨h1, h2⟩
            exact hgo ⟨by omega, by rw [hend]; omega⟩
          rw [hend] at hJ2 ⊢
          have hA2 : ((A ++ R).take 4097).length = ((vals (d.take (k + 1))).take 4097).length := by rw [hA]
          generalize hcn : ((A ++ R).take 4097).length = cn at *
          rw [← hA] at hJ2
          by_cases h1 : lo + j ≤ hi
          · have h2 : ¬ (cn ≤ 4096) := fun h2 => hex ⟨h1, by omega⟩
            have h3 : Hid (¬ cn ≤ 4096) := h2
            have hA3 : Hid (cn = ((vals (d.take (k + 1))).take 4097).length) := hA2
            clear hex h2 hend hA2 hcn
            gi_wp2
            · have h4 : ¬ cn ≤ 4096 := h3
              omega
            · have hA2 : cn = ((vals (d.take (k + 1))).take 4097).length := hA3
              exact ⟨⟨k + 1, by omega, by simp, by rw [hA2], hJ2, hK2⟩, by simp [intOf]; omega⟩
          · gi_wp2
            exact ⟨⟨k + 1, by omega, by simp, by rw [hA2], hJ2, hK2⟩, by simp [intOf]; omega⟩
    · obtain rfl : k = d.length := by omega
      rw [List.take_length] at hJs
      gi_wp2
      go_end0
      exact ⟨⟨_, rfl⟩, .inl ⟨_, rfl, hJs⟩⟩
theorem values1_gives (Bs o : Nat) (zs : List Int) (hreach : zs.length * 8 ≤ 140737488351232) (w : World) (u : Value) {Z : Nat → Prop} (hu : Rep w Z u (.ptr [ints zs])) : Gives Try.prog 57 #[u] w.heap.size w zs := by
  intro F n hF hro hn l J Jx W hW hJ _ hY h0
  cases hu with
  | ptr b o cells xs hz hb h1 h2 h3 =>
    cases h3 with
    | @cons v _ vs _ hv _ =>
      obtain ⟨p, cap, rfl, hc⟩ := rep_ints hv
      have hcell : w.cell? ⟨b, o, none⟩ = some (.slice p zs.length cap) := by have := (h2 0 _ rfl).1; simpa using this
      exact values1_in F n hF hro hn l b o w.heap.size p cap zs hreach J Jx hY W ((hW.cell (p := ⟨b, o, none⟩) hb).trans hcell) (fun hne => by
        obtain ⟨b', off, e, hb', hcs⟩ := hc hne
        exact ⟨b', off, e, hb', fun j hj => (hW.cell (p := ⟨b', off + j, none⟩) hb').trans (hcs j hj)⟩) h0
theorem all1_gives (d : List (Int × Int)) (hin : InB d) (hreach : d.length * 16 ≤ 140737488351232) (w : World) (u : Value) {Z : Nat → Prop} (hu : Rep w Z u (.ptr [dm d])) : Gives Try.prog 59 #[u] w.heap.size w ((vals d).take 4097) := by
  intro F n hF hro hn l J Jx W hW hJ _ hY h0
  cases hu with
  | ptr b o cells xs hz hb h1 h2 h3 =>
    cases h3 with
    | @cons v _ vs _ hv _ =>
      obtain ⟨p, cap, rfl, hc⟩ := rep_dm hv
      have hcell : w.cell? ⟨b, o, none⟩ = some (.slice p d.length cap) := by have := (h2 0 _ rfl).1; simpa using this
      exact all1_in F n hF hro hn l b o w.heap.size p cap d hin hreach J Jx hY W hW.size hJ ((hW.cell (p := ⟨b, o, none⟩) hb).trans hcell) (fun hne => by
        obtain ⟨b', off, e, hb', hcs⟩ := hc hne
        exact ⟨b', off, e, hb', fun j hj => ⟨(hW.cell (p := ⟨b', off + j * 2, none⟩) hb').trans (hcs j hj).1, (hW.cell (p := ⟨b', off + j * 2 + 1, none⟩) hb').trans (hcs j hj).2⟩⟩) h0
theorem infoI : (Try.prog.info? 3).map (fun i => (i.zero, i.size, i.bytes)) = some (some (.int .i64 0), 1, 8) := by kernel_rfl
theorem kpe_app {W w1 : World} {n₀ B : Nat} {v v' : Value} {k : Nat} {xs : List Value} {tmp : Obj} (hv : Boxed W B 23 v) (hrow : W.ownsRow n₀ 3 1 v k xs) (hgrow : (W.alloc tmp).grownBy w1 v.ownBlock)
    (b : Nat) (c : Array Value) (e : TypeId) (fr : Nat × Nat) (hb : W.heap[b]? = some (.cells c e fr)) (h1 : e ≠ 3) (h2 : e ≠ 23) : (w1.setCell ⟨B, 0, none⟩ v').heap[b]? = some (.cells c e fr) := by
  have hlt := (Array.getElem?_eq_some_iff.1 hb).1
  have hbB : b ≠ B := by
    rintro rfl
    have hv : W.heap[b]? = some (.cells #[v] 23 (0, 0)) := hv
    rw [hv] at hb; cases hb; exact h2 rfl
  have ha : (W.alloc tmp).heap[b]? = some (.cells c e fr) := (Below.heap_alloc _ _ b hlt).trans hb
  have hg : w1.heap[b]? = some (.cells c e fr) := by
    refine (hgrow.block b (by simp; omega) fun eb => ?_).trans ha
    rcases hrow.2 with ⟨rfl, _⟩ | ⟨g, cap, cur, rfl, _, hgb, _⟩
    · cases eb
    · obtain rfl : b = g := by simpa [Value.ownBlock] using eb
      rw [hgb] at hb; cases hb; exact h1 rfl
  exact ((grownBy_setCell' w1 B v').block b (Array.getElem?_eq_some_iff.1 hg).1 (fun e => hbB (Option.some.inj e))).trans hg
theorem kpe_put {n₀ : Nat} (W : World) (l : Nat) (o o' : Obj) (hl : n₀ ≤ l) (ho : W.heap[l]? = some o) (h1 : o.isCells = false) : KpE n₀ W (W.putObj l o') := by
  refine ⟨(Below.refl n₀ W).grown (grownBy_putObj' W l o') (by have := (Array.getElem?_eq_some_iff.1 ho).1; omega) (fun k e => by cases e; exact hl), fun b c e fr hb _ _ => ?_⟩
  have hne : l ≠ b := by rintro rfl; rw [ho] at hb; cases hb; cases h1
  exact (World.putObj_heap_other (Ne.symm hne)).trans hb
set_option maxRecDepth 100000 in
set_option maxHeartbeats 4000000 in
theorem appendSeq_in (F : Fence) (n : Nat) (hF : F.fn 58) (hro : F.round = none) (hn : 3 ≤ n) (g : Nat) (lb : Array Value) (hFg : F.fn g) (eg : ∀ args w, (callFunc g args).run Try.prog w = .ok (.enter g args) w) (xs : List Int) (hlen : xs.length * 8 ≤ 140737488355328) (w : World)
    (hs : Gives Try.prog g lb w.heap.size w xs) :
    CallsIn F n Try.prog 58 #[.slice none 0 0, .func (.func g) #[] lb] w fun e W' => ∃ v, e = .returned v ∧ W'.ownsRow w.heap.size 3 1 v xs.length (xs.map (Value.int .i64)) ∧ Below w.heap.size w W' := by
  have h1 : 1 ≤ n := by omega
  obtain ⟨i0, hi, hz0, hz1, hz2⟩ := info_parts infoI
  refine callsIn_of_wp_marks Try.func58 rfl hF ?_ hro
  simp only [Try.ntmps58, List.size_toArray, List.length_cons, List.length_nil, Nat.reduceAdd, Nat.reduceSub, Array.replicate_succ, Array.replicate_zero, List.push_toArray, List.append_toArray, List.nil_append, List.cons_append]
  gi_wp2
  have bO := Boxed.new w 23 (.slice none 0 0)
  have hB0 : Below w.heap.size w (w.alloc (.cells #[.slice none 0 0] 23)) := (Below.refl _ w).alloc (Nat.le_refl _) _
  have hm : maxLen = 9223372036854775807 := rfl
  refine wpIn_rangeFunc_ownG hro h1 (gf := g) (lb := lb) rfl hFg eg (hs F (n - 1) hFg hro (by omega)) KpE.trans (fun W l o o' hl ho h1 _ => kpe_put W l o o' (by simp at hl; omega) ho h1) hB0 (fun _ => rfl)
    (fun (pre : List Int) W => (∃ v, Boxed W w.heap.size 23 v ∧ W.ownsRow w.heap.size 3 1 v pre.length (pre.map (Value.int .i64)) ∧ True) ∧ Below w.heap.size w W)
    (fun _ _ _ => False)
    (OwnFrom.and (Own.from (holdsRow_own w.heap.size w.heap.size 23 3 1 (fun pre : List Int => pre.length) (fun pre : List Int => pre.map (Value.int .i64)) (fun _ _ => True)) _) (ownFrom_below (Nat.le_refl _) (by simp)))
    (fun _ _ _ _ _ hs _ _ => hs)
    ⟨⟨_, bO, World.ownsRow_nil _ _ _ _, trivial⟩, hB0⟩
    (fun x => { tmps := #[.slice none 0 0, .func (.func g) #[] lb, .pointer (some ⟨w.heap.size, 0, none⟩), undef, .slice none 0 0, .int .i64 x, .func (.func g) #[] lb, .int .i64 x, undef, undef, undef, undef, undef], defers := [] }) ?assign ?body ?done ?stop
  case assign =>
    intro l x W K hK
    gi_wp2
    exact hK
  case body =>
    rintro l pre x W ⟨⟨v, hv, hrow, _⟩, hB⟩ hlt
    have hc := hv.cell
    gi_wp2_with (gi_at_builtin; refine wpListIn_append_own _ rfl _ _ 23 rfl w.heap.size 3 i0 (.int .i64 0) 1 8 Try.underlying23 hi hz0 hz1 hz2 rfl (by decide) _ _ _ rfl (hrow.alloc _) ⟨W.heap.size, 0, none⟩ 1 1 [.int .i64 x] rfl rfl (cell_one_new _ _ _) (by simp [Value.oneCell']) (by omega) (by omega) (by have := hB.size; simp; omega) ?_; intro v' w1 hown' hgrow _; obtain ⟨g', cap', rfl⟩ := ownsRow_succ hown'; obtain ⟨hv1, hv2, hr2, hk2, hb2⟩ := hv.appended (by decide) hrow hB.size (Nat.le_refl _) hown' hgrow; have hkp := kpe_app (v' := Value.slice (some ⟨g', 0, none⟩) (pre.length + 1) cap') hv hrow hgrow; have hc1 := hv1.cell; have hf1 := hv1.frozen)
    exact ⟨hk2.from _, ⟨hb2, hkp⟩, ⟨_, hv2, by simpa using hr2, trivial⟩, hB.trans hb2⟩
  case done =>
    rintro D ys W hD rfl ⟨⟨v, hv, hrow, _⟩, hB⟩ hK
    have hc := hv.cell
    gi_wp2
    refine ⟨by simp, .inl ⟨_, _, rfl, run_takeDeferred hK, ?_⟩⟩
    exact ⟨_, results_tmp rfl _ _ _, v, rfl, ownsRow_putObj hrow _ hK rfl, hB.trans (belowK_b (w := w) (Nat.le_refl _) W D _ _ (by simp at hD; omega) hK rfl rfl)⟩
  case stop =>
    rintro D c pre W _ _ h _
    exact h.elim
theorem collect_in (F : Fence) (n : Nat) (h8 : F.fn 52) (hF : F.fn 58) (hro : F.round = none) (hn : 4 ≤ n) (g : Nat) (lb : Array Value) (hFg : F.fn g) (eg : ∀ args w, (callFunc g args).run Try.prog w = .ok (.enter g args) w) (xs : List Int) (hlen : xs.length * 8 ≤ 140737488355328) (w : World)
    (hs : Gives Try.prog g lb w.heap.size w xs) :
    CallsIn F n Try.prog 52 #[.func (.func g) #[] lb] w fun e W' => ∃ v, e = .returned v ∧ W'.ownsRow w.heap.size 3 1 v xs.length (xs.map (Value.int .i64)) ∧ Below w.heap.size w W' := by
  have h1 : 1 ≤ n := by omega
  refine callsIn_of_wp Try.func52 rfl h8 ?_ hro
  simp only [Try.ntmps52, List.size_toArray, List.length_cons, List.length_nil, Nat.reduceAdd, Nat.reduceSub, Array.replicate_succ, Array.replicate_zero, List.push_toArray, List.append_toArray, List.nil_append, List.cons_append]
  gi_wp2_with (gi_at_call 58; refine (appendSeq_in F (n - 1) hF hro (by omega) g lb hFg eg xs hlen _ hs).mono ?_; rintro e w' ⟨v, rfl, hrow, hb⟩)
  go_ret
  exact ⟨v, rfl, hrow, hb⟩
end Go.Proofs.Ytdflkbmpbblcfaa
/-! Contracts: a domain's values. -/
namespace Go.Proofs.Ytdflkbmpbblcfaa
open Go Go.RowKit
set_option linter.unusedVariables false
set_option linter.unusedSimpArgs false
set_option maxRecDepth 8000

theorem own_ints {w w' : World} {v : Value} {xs : List Int} {Zx : Nat → Prop} (h : w'.ownsRow w.heap.size 3 1 v xs.length (xs.map (Value.int .i64))) : RetRel w w' Zx [v] [.own 3 1 (xs.map cI)] := by
  have hvb : ∀ g, VB v g → w.heap.size ≤ g := fun g hg => (h.lt g ((VB_own h).1 hg)).1
  have hsl : ∀ Z : Nat → Prop, SlRel w' Z v 3 1 (xs.map cI) := fun Z => by
    refine ⟨xs.map (Value.int .i64), ?_, ?_, fun r hr => by obtain ⟨x, _, rfl⟩ := List.mem_map.1 hr; rfl, fun r hr p hp => by obtain ⟨x, _, rfl⟩ := List.mem_map.1 hr; simp [cI] at hp; rw [hp]; rfl⟩
    · rw [List.length_map]
      refine ⟨h.1, ?_⟩
      rcases h.2 with h2 | ⟨g, cap, cur, e, _, r⟩
      · exact .inl h2
      · exact .inr ⟨g, cap, cur, e, Nat.zero_le _, r⟩
    · have e : (xs.map cI).flatten = xs.map (PV.int .i64) := flat1 _ xs
      rw [e]
      clear e h hvb
      induction xs with
      | nil => exact .nil
      | cons x xs ih => exact .cons (.int _ _) ih
  refine ⟨.cons (hsl _) .nil, fun u g hu hg => ?_, fun i j u u' g hi hj _ _ => ?_⟩
  · have : u = v := by simpa [RV.vals] using hu
    exact hvb g (this ▸ hg)
  · simp only [RV.vals] at hi hj
    cases i <;> cases j <;> simp_all
theorem collect_spec {g : FuncId} {caps : List PV} {xs : List Int} (eg : ∀ args w, (callFunc g args).run Try.prog w = .ok (.enter g args) w) (hg : ∀ (w : World) (Z : Nat → Prop) (us : List Value), L2 (Rep w Z) us caps → Gives Try.prog g us.toArray w.heap.size w xs) (hl : xs.length * 8 ≤ 140737488355328) :
    Spec Try.prog 52 false [.fn (.func g) [] caps] [.own 3 1 (xs.map cI)] := by
  refine ⟨⟨_, Try.func52, rfl, rfl⟩, fun w Z vs hvs => ?_⟩
  cases hvs with
  | cons h0 h1 =>
    cases h1
    cases h0 with
    | fn f fs us fst cps h2 h3 =>
      cases h2
      refine ((collect_in Fence.wide 9 trivial trivial rfl (by decide) g us.toArray trivial eg xs hl w (hg w Z us h3)).calls room_wide).mono ?_
      rintro e w' ⟨v, rfl, hrow, hb⟩
      exact ⟨[v], rfl, hb, own_ints hrow⟩
theorem dall_spec (d : List (Int × Int)) : Spec Try.prog 53 true [dm d] [.val (.fn (.func 59) [] [.ptr [dm d]])] := by
  refine Spec.body Try.func53 rfl rfl rfl fun w0 Z0 => ?_
  repeat' ((first | refine T.G rfl ?_ | refine J.G rfl ?_ | refine J.H rfl ?_ | refine T.rd rfl (by decide +kernel) ?_ | fail); conv => whnf)
  refine J.sub (Rel.unbx (s := 1) (fun _ h => h) rfl rfl) ?_
  refine J.sub (Rel.fp (s := 1) rfl) ?_
  repeat' ((first | refine T.G rfl ?_ | refine J.G rfl ?_ | refine J.H rfl ?_ | refine T.rd rfl (by decide +kernel) ?_ | fail); conv => whnf)
  exact ⟨_, .v rfl rfl rfl (fun h => by cases h) .nil⟩
theorem svals_spec (l : List Int) : Spec Try.prog 44 true [ints l] [.val (.fn (.func 57) [] [.ptr [ints l]])] := by
  refine Spec.body Try.func44 rfl rfl rfl fun w0 Z0 => ?_
  repeat' ((first | refine T.G rfl ?_ | refine J.G rfl ?_ | refine J.H rfl ?_ | refine T.rd rfl (by decide +kernel) ?_ | fail); conv => whnf)
  refine J.sub (Rel.unbx (s := 1) (fun _ h => h) rfl rfl) ?_
  refine J.sub (Rel.fp (s := 1) rfl) ?_
  repeat' ((first | refine T.G rfl ?_ | refine J.G rfl ?_ | refine J.H rfl ?_ | refine T.rd rfl (by decide +kernel) ?_ | fail); conv => whnf)
  exact ⟨_, .v rfl rfl rfl (fun h => by cases h) .nil⟩
theorem dvalues_spec (d : List (Int × Int)) (hb : InB d) (hd : d.length * 16 ≤ 140737488351232) : Spec Try.prog 37 false [dm d] [.own 3 1 (((vals d).take 4097).map cI)] := by
  refine Spec.body Try.func37 rfl rfl rfl fun w0 Z0 => ?_
  have hc := collect_spec (g := 59) (caps := [.ptr [dm d]]) (xs := (vals d).take 4097) (enters_of Try.func59 (by kernel_rfl) rfl) (fun w Z us h => by
    cases h with
    | cons h1 h2 => cases h2; exact all1_gives d hb hd w _ h1) (by rw [List.length_take]; omega)
  repeat' ((first | refine T.G rfl ?_ | refine J.G rfl ?_ | refine J.H rfl ?_ | refine T.rd rfl (by decide +kernel) ?_ | fail); conv => whnf)
  refine J.cc rfl rfl rfl rfl rfl (dall_spec d) rfl rfl ?_
  repeat' ((first | refine T.G rfl ?_ | refine J.G rfl ?_ | refine J.H rfl ?_ | refine T.rd rfl (by decide +kernel) ?_ | fail); conv => whnf)
  refine J.cc rfl rfl rfl rfl rfl hc rfl rfl ?_
  repeat' ((first | refine T.G rfl ?_ | refine J.G rfl ?_ | refine J.H rfl ?_ | refine T.rd rfl (by decide +kernel) ?_ | fail); conv => whnf)
  exact ⟨_, .o rfl rfl rfl (fun _ => .inl rfl) (by simp) .nil⟩
end Go.Proofs.Ytdflkbmpbblcfaa
