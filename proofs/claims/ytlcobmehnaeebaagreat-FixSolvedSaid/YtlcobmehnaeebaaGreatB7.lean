/- The texts PuX, PuY, PuZ, PvA, FuJ, PvB, PuT, PvD, FvA, ShC, FvB, FvC, PvC, FvD, FvE, LiH, FvF, PuE, FvG, FvH, LwFSolved, RowA of the workplace, joined. -/
import Derived.Test.YtlcobmehnaeebaaGreatB6
import Derived.Shelf.Slices.CompactI
import Derived.Shelf.SlicesE.DeleteFunc
import Derived.Test.YtlcobmehnaeebaaGreatProg
namespace Go.Proofs.YtlcobmehnaeebaaGreat
open Go Go.RowKit
set_option linter.unusedVariables false
set_option linter.unusedSimpArgs false

structure StepOK (n : Nat) (us : List Int) (P : (Int → Int) → Prop) (f : Doms → Option Doms) : Prop where
  takes : Takes leD (GoodD n) f
  stays : ∀ a b, GoodD n a → GoodD n b → f a = some a → (∀ u ∈ us, domAt a u = domAt b u) → f b = some b
  off : ∀ a out, GoodD n a → f a = some out → ∀ v, 0 ≤ v → v ∉ us → domAt out v = domAt a v
  point : ∀ e, GoodD n e → ∀ g : Int → Int, (∀ u ∈ us, vals (domAt e u) = [g u]) → (f e = some e ↔ P g)
  in' : ∀ u ∈ us, 0 ≤ u ∧ u.toNat < n
theorem SuppS.step {n : Nat} {us : List Int} {P : List Int → Bool} {f : Doms → Option Doms} (h : SuppS n us P f) : StepOK n us (fun g => P (us.map g) = true) f := by
  refine ⟨h.takes, fun a b ga gb ha hab => h.stays ga gb ha hab, fun a out ga he => (h.ok a out ga he).2.2, fun e ge g he => ?_, h.in'⟩
  rw [h.point ge g he]
  by_cases hp : P (us.map g) = true
  · simp [hp]
  · simp [hp]
theorem StepOK.iff {n : Nat} {us : List Int} {P Q : (Int → Int) → Prop} {f : Doms → Option Doms} (h : StepOK n us P f) (hq : ∀ g, P g ↔ Q g) : StepOK n us Q f :=
  ⟨h.takes, h.stays, h.off, fun e ge g he => (h.point e ge g he).trans (hq g), h.in'⟩
theorem StepOK.wide {n : Nat} {us vs : List Int} {P : (Int → Int) → Prop} {f : Doms → Option Doms} (h : StepOK n us P f) (hs : ∀ u ∈ us, u ∈ vs) (hv : ∀ u ∈ vs, 0 ≤ u ∧ u.toNat < n) : StepOK n vs P f :=
  ⟨h.takes, fun a b ga gb ha hab => h.stays a b ga gb ha fun u hu => hab u (hs u hu), fun a out ga he v h0 hv => h.off a out ga he v h0 fun hm => hv (hs v hm), fun e ge g he => h.point e ge g fun u hu => he u (hs u hu), hv⟩
theorem StepOK.congr {n : Nat} {us : List Int} {P : (Int → Int) → Prop} {f f' : Doms → Option Doms} (h : StepOK n us P f) (he : ∀ d, GoodD n d → f' d = f d) : StepOK n us P f' := by
  refine ⟨⟨fun a a' ga e => h.takes.less a a' ga (by rw [← he a ga]; exact e), fun a a' b ga gb hle e => ?_⟩, fun a b ga gb ha hab => ?_, fun a out ga e => h.off a out ga (by rw [← he a ga]; exact e), fun e ge g hg => by rw [he e ge]; exact h.point e ge g hg, h.in'⟩
  · rw [he a ga] at e; rw [he b gb]; exact h.takes.mono a a' b ga gb hle e
  · rw [he a ga] at ha; rw [he b gb]; exact h.stays a b ga gb ha hab
def mixD (us : List Int) (a b : Doms) : Doms := (List.range a.length).map fun j : Nat => if (j : Int) ∈ us then domAt a (j : Int) else domAt b (j : Int)
theorem mix_at {us : List Int} {a b : Doms} {v : Int} (h0 : 0 ≤ v) (hl : v.toNat < a.length) : domAt (mixD us a b) v = if v ∈ us then domAt a v else domAt b v := by
  have e : ((v.toNat : Nat) : Int) = v := by omega
  unfold domAt mixD
  rw [List.getD_eq_getElem?_getD, List.getElem?_map, List.getElem?_range hl]
  simp only [Option.map_some, Option.getD_some, e, domAt]
theorem dom_none {a : Doms} {v : Int} (hl : a.length ≤ v.toNat) : domAt a v = [] := by
  unfold domAt
  rw [List.getD_eq_getElem?_getD, List.getElem?_eq_none hl]; rfl
theorem mix_good {n : Nat} {us : List Int} {a b : Doms} (ga : GoodD n a) (gb : GoodD n b) : GoodD n (mixD us a b) := by
  have hl : (mixD us a b).length = a.length := by simp [mixD]
  have hm : ∀ x ∈ mixD us a b, x ∈ a ∨ x ∈ b := by
    intro x hx
    obtain ⟨j, hj, rfl⟩ := List.mem_map.1 hx
    have hj := List.mem_range.1 hj
    split
    · exact .inl (domAt_mem (by simpa using hj))
    · exact .inr (domAt_mem (by rw [gb.len, ← ga.len]; simpa using hj))
  refine ⟨⟨by rw [hl]; exact ga.few.small, fun x hx => ?_, fun x hx => ?_⟩, by rw [hl, ga.len], fun hx => ?_⟩
  · exact (hm x hx).elim (ga.few.fine x) (gb.few.fine x)
  · exact (hm x hx).elim (ga.few.few x) (gb.few.few x)
  · exact (hm _ hx).elim ga.some' gb.some'
theorem Ends.step {γ : Type} {n : Nat} {us : List Int} {l : List γ} {f : γ → Doms → Option Doms} {F : Doms → Option Doms} {P : γ → (Int → Int) → Prop} (h : ∀ d, GoodD n d → Ends leD (GoodD n) f l d (F d)) (hs : ∀ c ∈ l, StepOK n us (P c) (f c)) (hin : ∀ u ∈ us, 0 ≤ u ∧ u.toNat < n) : StepOK n us (fun g => ∀ c ∈ l, P c g) F := by
  have O := orderD n
  have loc : ∀ a b, GoodD n a → GoodD n b → Stays f l a → (∀ u ∈ us, domAt a u = domAt b u) → Stays f l b := fun a b ga gb ha hab c hc => (hs c hc).stays a b ga gb (ha c hc) hab
  refine ⟨Ends.takes O h, fun a b ga gb ha hab => (Ends.fix O h gb).2 (loc a b ga gb ((Ends.fix O h ga).1 ha) hab), fun a out ga he v h0 hv => ?_, fun e ge g he => ?_, hin⟩
  · have hE := h a ga
    rw [he] at hE
    obtain ⟨hc, hst⟩ := hE
    by_cases hl : v.toNat < n
    · have gm := mix_good (us := us) hc.fine ga
      have hlo : out.length = a.length := hc.less.1
      have hat : ∀ u : Int, 0 ≤ u → domAt (mixD us out a) u = if u ∈ us then domAt out u else domAt a u := fun u hu0 => by
        by_cases hul : u.toNat < out.length
        · exact mix_at hu0 hul
        · rw [dom_none (by rw [gm.len]; rw [hc.fine.len] at hul; omega), dom_none (by omega), dom_none (by omega), ite_self]
      have hst2 : Stays f l (mixD us out a) := by
        refine loc out _ hc.fine gm hst fun u hu => ?_
        rw [hat u (hin u hu).1, if_pos hu]
      have hle : leD (mixD us out a) a := ⟨by rw [gm.len, ga.len], fun u x hu0 hx => by
        rw [hat u hu0] at hx
        split at hx
        · exact hc.less.2 u x hu0 hx
        · exact hx⟩
      have hk := hc.keep _ gm hle hst2
      have f1 := (hc.fine.few.fine _ (domAt_mem (by rw [hc.fine.len]; exact hl))).ok
      have f2 := (ga.few.fine _ (domAt_mem (by rw [ga.len]; exact hl))).ok
      refine dom_ext f1 f2 (up_ext (vals_up f1) (vals_up f2) fun x => ⟨hc.less.2 v x h0, fun hx => hk.2 v x h0 ?_⟩)
      rw [hat v h0, if_neg hv]
      exact hx
    · rw [dom_none (by rw [hc.fine.len]; omega), dom_none (by rw [ga.len]; omega)]
  · rw [Ends.fix O h ge]
    exact ⟨fun hh c hc => ((hs c hc).point e ge g he).1 (hh c hc), fun hh c hc => ((hs c hc).point e ge g he).2 (hh c hc)⟩
def sumG (vars coefs : List Int) (g : Int → Int) : Int := ((vars.zip coefs).map fun p => p.2 * g p.1).sum
def sumL (coefs l : List Int) : Int := ((l.zip coefs).map fun p => p.2 * p.1).sum
theorem sumL_map : ∀ (vars coefs : List Int) (g : Int → Int), sumL coefs (vars.map g) = sumG vars coefs g
  | [], _, _ => by simp [sumL, sumG]
  | _ :: _, [], _ => by simp [sumL, sumG]
  | v :: vars, k :: coefs, g => by
    have := sumL_map vars coefs g
    simp only [sumL, sumG, List.map_cons, List.zip_cons_cons, List.sum_cons] at this ⊢
    rw [this]
theorem sum_upd {α : Type} {f f' : α → Int} {q : α} : ∀ {l : List α}, l.Nodup → q ∈ l → (∀ p ∈ l, p ≠ q → f' p = f p) → (l.map f').sum = (l.map f).sum - f q + f' q
  | p :: l, hn, hq, h => by
    have h1 := List.nodup_cons.1 hn
    simp only [List.map_cons, List.sum_cons]
    rcases List.mem_cons.1 hq with rfl | hq
    · have : l.map f' = l.map f := List.map_congr_left fun r hr => h r (.tail _ hr) fun e => h1.1 (e ▸ hr)
      rw [this]; omega
    · have := sum_upd (f := f) (f' := f') h1.2 hq fun r hr => h r (.tail _ hr)
      have := h p (.head _) fun e => h1.1 (e ▸ hq)
      omega
theorem zip_nodup : ∀ {vars coefs : List Int}, vars.Nodup → (vars.zip coefs).Nodup
  | [], _, _ => by simp
  | _ :: _, [], _ => by simp
  | v :: vars, k :: coefs, h => by
    have h1 := List.nodup_cons.1 h
    rw [List.zip_cons_cons]
    exact List.nodup_cons.2 ⟨fun hm => h1.1 (List.of_mem_zip hm).1, zip_nodup h1.2⟩
theorem zip_uniq : ∀ {vars coefs : List Int}, vars.Nodup → ∀ {p q : Int × Int}, p ∈ vars.zip coefs → q ∈ vars.zip coefs → p.1 = q.1 → p = q
  | [], _, _, p, q, h, _, _ => by simp at h
  | _ :: _, [], _, p, q, h, _, _ => by simp at h
  | v :: vars, k :: coefs, hn, p, q, hp, hq, e => by
    have h1 := List.nodup_cons.1 hn
    rw [List.zip_cons_cons] at hp hq
    rcases List.mem_cons.1 hp with rfl | hp
    · rcases List.mem_cons.1 hq with rfl | hq
      · rfl
      · exact absurd ((show v = q.1 from e) ▸ (List.of_mem_zip hq).1) h1.1
    · rcases List.mem_cons.1 hq with rfl | hq
      · exact absurd ((show p.1 = v from e) ▸ (List.of_mem_zip hp).1) h1.1
      · exact zip_uniq h1.2 hp hq e
theorem pick_of {vars coefs : List Int} (hn : vars.Nodup) (h : Int × Int → Int) : ∃ g : Int → Int, ∀ p ∈ vars.zip coefs, g p.1 = h p := by
  refine ⟨fun u => if hu : ∃ p ∈ vars.zip coefs, p.1 = u then h hu.choose else 0, fun p hp => ?_⟩
  have hu : ∃ q ∈ vars.zip coefs, q.1 = p.1 := ⟨p, hp, rfl⟩
  simp only [dif_pos hu]
  rw [zip_uniq hn hu.choose_spec.1 hp hu.choose_spec.2]
theorem suppM {n : Nat} {vars coefs : List Int} {rhs : Int} (hc : SumC n vars coefs rhs) (hne : vars ≠ []) : SuppS n vars (fun l => decide (sumL coefs l ≤ rhs)) (stepM vars coefs rhs) := by
  have low : ∀ d, GoodD n d → ∀ g : Int → Int, (∀ u ∈ vars, g u ∈ vals (domAt d u)) → ∀ p ∈ vars.zip coefs, p.2 * g p.1 - lowE (domAt d p.1) p.2 ≤ sumG vars coefs g - lowS (termsOf d vars coefs) := fun d gd g hg p hp => by
    rw [lowS_zip]
    refine (sum_le_sum (f := fun p : Int × Int => lowE (domAt d p.1) p.2) (g := fun p => p.2 * g p.1) (l := vars.zip coefs) fun q hq => ?_).2 p hp
    have hv := (List.of_mem_zip hq).1
    exact (lowE_le (gd.few.fine _ (domAt_mem (by rw [gd.len]; exact (hc.vin _ hv).2))).ok (hg _ hv)).1
  have put : ∀ d, GoodD n d → ∀ q ∈ vars.zip coefs, ∀ x ∈ vals (domAt d q.1), ∃ g : Int → Int, (∀ u ∈ vars, g u ∈ vals (domAt d u)) ∧ g q.1 = x ∧ sumG vars coefs g = lowS (termsOf d vars coefs) - lowE (domAt d q.1) q.2 + q.2 * x := fun d gd q hq x hx => by
    have hex : ∀ p : Int × Int, ∃ y, p ∈ vars.zip coefs → y ∈ vals (domAt d p.1) ∧ lowE (domAt d p.1) p.2 = p.2 * y := fun p => by
      by_cases hp : p ∈ vars.zip coefs
      · have hm : domAt d p.1 ∈ d := domAt_mem (by rw [gd.len]; exact (hc.vin _ (List.of_mem_zip hp).1).2)
        obtain ⟨y, h1, h2⟩ := lowE_at (gd.few.fine _ hm).ok (fun e => gd.some' (e ▸ hm)) p.2
        exact ⟨y, fun _ => ⟨h1, h2⟩⟩
      · exact ⟨0, fun h => absurd h hp⟩
    obtain ⟨g, hg⟩ := pick_of (coefs := coefs) hc.nod fun p => if p = q then x else (hex p).choose
    refine ⟨g, fun u hu => ?_, by rw [hg q hq, if_pos rfl], ?_⟩
    · obtain ⟨p, hp, rfl⟩ := zip_var hc.vl hu
      rw [hg p hp]
      split
      · rename_i e; exact e ▸ hx
      · exact ((hex p).choose_spec hp).1
    · unfold sumG
      rw [sum_upd (f := fun p => lowE (domAt d p.1) p.2) (q := q) (zip_nodup hc.nod) hq fun p hp hpq => ?_, ← lowS_zip, hg q hq, if_pos rfl]
      show p.2 * g p.1 = lowE (domAt d p.1) p.2
      rw [hg p hp, if_neg hpq]
      exact ((hex p).choose_spec hp).2.symm
  refine ⟨fun d out gd he => ?_, fun d gd he g hg => ?_, hc.vin, hne⟩
  · unfold stepM at he
    split at he
    · cases he
    · rename_i hno
      obtain rfl := Option.some.inj he
      have hw := hc.whole gd
      refine ⟨(MO_good hc gd hno).1, fun v hv x => ?_, fun v h0 hv => MO_off hw h0 hv⟩
      obtain ⟨q, hq, rfl⟩ := zip_var hc.vl hv
      rw [MO_dom hw hq, (cutAt_ok hw hq _).2 x]
      constructor
      · rintro ⟨h1, h2⟩
        obtain ⟨g, h3, h4, h5⟩ := put d gd q hq x h1
        refine ⟨g, h3, decide_eq_true ?_, h4⟩
        rw [sumL_map, h5]; omega
      · rintro ⟨g, h3, h4, rfl⟩
        have h4 := of_decide_eq_true h4
        rw [sumL_map] at h4
        have := low d gd g h3 q hq
        exact ⟨h3 _ hv, by omega⟩
  · refine decide_eq_false fun hle => ?_
    rw [sumL_map] at hle
    unfold stepM at he
    split at he
    · rename_i hem
      obtain ⟨j, hj⟩ := List.getElem?_of_mem hem
      have hw := hc.whole gd
      have hjn : j < n := by
        have := (List.getElem?_eq_some_iff.1 hj).1
        rwa [(MO_ok hw).2.1, gd.len] at this
      have e : domAt (MO d vars coefs rhs) (j : Int) = [] := by
        unfold domAt
        rw [List.getD_eq_getElem?_getD, Int.toNat_natCast, hj]; rfl
      by_cases hv : (j : Int) ∈ vars
      · obtain ⟨q, hq, hqj⟩ := zip_var hc.vl hv
        have h1 := low d gd g hg q hq
        have h2 := ((cutAt_ok hw hq (lowS (termsOf d vars coefs))).2 (g q.1)).2 ⟨hg _ (List.of_mem_zip hq).1, by omega⟩
        rw [← MO_dom hw hq, hqj, e] at h2
        cases h2
      · rw [MO_off hw (by omega) hv] at e
        exact gd.some' (e ▸ domAt_mem (by rw [gd.len]; simpa using hjn))
    · cases he
theorem stepM_ok {n : Nat} {vars coefs : List Int} {rhs : Int} (hc : SumC n vars coefs rhs) (hne : vars ≠ []) : StepOK n vars (fun g => sumG vars coefs g ≤ rhs) (stepM vars coefs rhs) :=
  (suppM hc hne).step.iff fun g => by rw [decide_eq_true_eq, sumL_map]
end Go.Proofs.YtlcobmehnaeebaaGreat
namespace Go.Proofs.YtlcobmehnaeebaaGreat
open Go Go.RowKit
set_option linter.unusedVariables false
set_option linter.unusedSimpArgs false

theorem rotherGo_ge : ∀ (ts : List (List (Int × Int) × Int)) (i m : Nat) (s : Int) (a : Nat), m ≤ (rotherGo i ts m s a).1
  | [], i, m, s, a => Nat.le_refl _
  | t :: ts, i, m, s, a => by
    rw [rotherGo]
    split
    · have := rotherGo_ge ts (i + 1) (m + 1) s i
      omega
    · exact rotherGo_ge ts _ _ _ _
theorem rotherGo_keep : ∀ (ts : List (List (Int × Int) × Int)) (i m : Nat) (s : Int) (a : Nat), (rotherGo i ts m s a).1 = m → (rotherGo i ts m s a).2.2 = a
  | [], i, m, s, a, _ => rfl
  | t :: ts, i, m, s, a, h => by
    rw [rotherGo] at h ⊢
    split at h
    · have := rotherGo_ge ts (i + 1) (m + 1) s i
      omega
    · rename_i hc
      rw [if_neg hc]
      exact rotherGo_keep ts _ _ _ _ h
theorem rotherGo_two : ∀ (ts : List (List (Int × Int) × Int)) (i m : Nat) (s : Int) (a : Nat),
    ((rotherGo i ts m s a).1 = m + 1 → ∃ (j : Nat) (t : List (Int × Int) × Int), (rotherGo i ts m s a).2.2 = i + j ∧ ts[j]? = some t ∧ 1 < (vals t.1).length) ∧
    (m + 1 < (rotherGo i ts m s a).1 → ∃ (j k : Nat) (t u : List (Int × Int) × Int), j ≠ k ∧ ts[j]? = some t ∧ ts[k]? = some u ∧ 1 < (vals t.1).length ∧ 1 < (vals u.1).length)
  | [], i, m, s, a => by simp [rotherGo]
  | t :: ts, i, m, s, a => by
    rw [rotherGo]
    by_cases hc : 1 < (vals t.1).length
    · rw [if_pos hc]
      refine ⟨fun e => ?_, fun e => ?_⟩
      · have hk := rotherGo_keep ts (i + 1) (m + 1) s i e
        exact ⟨0, t, by rw [hk]; rfl, rfl, hc⟩
      · have hex : ∃ (k : Nat) (u : List (Int × Int) × Int), ts[k]? = some u ∧ 1 < (vals u.1).length := by
          refine Classical.byContradiction fun hn => ?_
          have := rotherGo_none ts (i + 1) (m + 1) i s fun u hu h => hn ((List.mem_iff_getElem?.1 hu).elim fun k hk => ⟨k, u, hk, h⟩)
          omega
        obtain ⟨k, u, h5, h6⟩ := hex
        exact ⟨0, k + 1, t, u, by omega, rfl, by simpa using h5, hc, h6⟩
    · rw [if_neg hc]
      obtain ⟨h3, h4⟩ := rotherGo_two ts (i + 1) m (wr (s + wr (t.2 * hd0 (vals t.1)))) a
      refine ⟨fun e => ?_, fun e => ?_⟩
      · obtain ⟨j, u, h5, h6, h7⟩ := h3 e
        exact ⟨j + 1, u, by omega, by simpa using h6, h7⟩
      · obtain ⟨j, k, u, w, h5, h6, h7, h8, h9⟩ := h4 e
        exact ⟨j + 1, k + 1, u, w, by omega, by simpa using h6, by simpa using h7, h8, h9⟩
theorem supp_of {n : Nat} {d : Doms} (hd : GoodD n d) {us : List Int} (hin : ∀ u ∈ us, 0 ≤ u ∧ u.toNat < n) {g : Int → Int} (hg : ∀ u ∈ us, g u ∈ vals (domAt d u)) : ∃ a, Supp a d ∧ ∀ u ∈ us, atR a u = g u := by
  have hex : ∀ j : Nat, ∃ x, j < n → x ∈ vals (domAt d j) ∧ ((j : Int) ∈ us → x = g j) := fun j => by
    by_cases hj : (j : Int) ∈ us
    · exact ⟨g j, fun _ => ⟨hg _ hj, fun _ => rfl⟩⟩
    · by_cases hl : j < n
      · obtain ⟨x, hx⟩ := hd.ne (v := (j : Int)) (by simpa using hl)
        exact ⟨x, fun _ => ⟨hx, fun h => absurd h hj⟩⟩
      · exact ⟨0, fun h => absurd h hl⟩
  refine ⟨(List.range n).map fun j => (hex j).choose, ⟨by simp [hd.len], fun i x v hx hv => ?_⟩, fun u hu => ?_⟩
  · have hi := (List.getElem?_eq_some_iff.1 hx).1
    have hin' : i < n := by rw [← hd.len]; exact hi
    rw [List.getElem?_map, List.getElem?_range hin'] at hv
    obtain rfl := Option.some.inj hv
    have h1 := ((hex i).choose_spec hin').1
    have e : domAt d (i : Int) = x := by
      rw [List.getElem?_eq_getElem hi] at hx
      rw [dom_at hi]; exact Option.some.inj hx
    exact e ▸ h1
  · obtain ⟨h0, h1⟩ := hin u hu
    have e : ((u.toNat : Nat) : Int) = u := by omega
    unfold atR
    rw [if_neg (by omega), List.getD_eq_getElem?_getD, List.getElem?_map, List.getElem?_range h1]
    exact (((hex u.toNat).choose_spec h1).2 (by rw [e]; exact hu)).trans (congrArg g e)
theorem plain_sumG {vars coefs a : List Int} {g : Int → Int} (h : ∀ u ∈ vars, atR a u = g u) : plainS vars coefs a = sumG vars coefs g := by
  unfold plainS sumG
  congr 1
  exact List.map_congr_left fun p hp => by rw [h _ (List.of_mem_zip hp).1]
structure LinC (n : Nat) (c : Con) : Prop where
  sum : SumC n c.vars c.coefs c.rhs
  pos : 0 < c.vars.length
  op : 0 ≤ c.op ∧ c.op ≤ 2
theorem LinC.ok {n : Nat} {c : Con} (h : LinC n c) {d : Doms} (hd : GoodD n d) : SumOk d c := ⟨(h.sum.whole hd).fine, h.sum.nod, h.pos, h.op, h.sum.big⟩
theorem LinC.ne {n : Nat} {c : Con} (h : LinC n c) : c.vars ≠ [] := fun e => by have := h.pos; rw [e] at this; simp at this
theorem GoodD.of_sub {n : Nat} {a b : Doms} (hb : GoodD n b) (h : Sub a b) (hf : ∀ x ∈ a, Fine x) (hne : [] ∉ a) : GoodD n a ∧ leD a b := by
  have hle : leD a b := by
    refine ⟨h.1, fun v x h0 hx => ?_⟩
    by_cases hl : v.toNat < a.length
    · exact h.2 v.toNat _ _ (domAt_some hl) (domAt_some (by rw [← h.1]; exact hl)) x hx
    · rw [dom_none (by omega)] at hx; cases hx
  refine ⟨⟨⟨by rw [h.1]; exact hb.few.small, hf, fun x hx => ?_⟩, by rw [h.1, hb.len], hne⟩, hle⟩
  obtain ⟨j, hj⟩ := List.getElem?_of_mem hx
  have hjl := (List.getElem?_eq_some_iff.1 hj).1
  have hjd : j < b.length := by rw [← h.1]; exact hjl
  have := up_length_le (vals_up (hf x hx).ok) fun v hv => h.2 j x _ hj (List.getElem?_eq_getElem hjd) v hv
  have := hb.few.few _ (List.getElem_mem hjd)
  omega
def neO (c : Con) (d : Doms) : Option Doms := if [] ∈ rotherW d c then none else some (rotherW d c)
theorem rother_off {d : Doms} {c : Con} (hp : 0 < c.vars.length) (hl : c.vars.length = c.coefs.length) (h0 : ∀ v ∈ c.vars, 0 ≤ v) {v : Int} (hv0 : 0 ≤ v) (hv : v ∉ c.vars) : domAt (rotherW d c) v = domAt d v := by
  have hin := rotherGo_in (termsOf d c.vars c.coefs) 0 0 0 0 c.vars.length hp (by simp [termsOf]; omega) (Nat.le_refl _)
  have key : ∀ (k : Nat) (y : List (Int × Int)), k < c.vars.length → domAt (d.set (varAt c k).toNat y) v = domAt d v := fun k y hk => by
    have hm := varAt_mem (c := c) hk
    have h1 := h0 _ hm
    have hne : (varAt c k).toNat ≠ v.toNat := fun e => hv ((show varAt c k = v by omega) ▸ hm)
    unfold domAt
    rw [List.getD_eq_getElem?_getD, List.getD_eq_getElem?_getD, List.getElem?_set_ne hne]
  unfold rotherW
  simp only
  split
  · rfl
  · split
    · split
      · exact key 0 _ hp
      · rfl
    · exact key _ _ hin.1
theorem suppN {n : Nat} {c : Con} (h : LinC n c) (hop : c.op = 2) : SuppS n c.vars (fun l => decide (sumL c.coefs l ≠ c.rhs)) (neO c) := by
  have hc := h.sum
  have hans : ∀ d, GoodD n d → LinAns d c (neO c d) 0 := fun d gd => by
    have hw : WholeC c d := hc.whole gd
    unfold LinAns
    rw [if_neg gd.some', if_pos hop, other_same hw h.pos]
    rfl
  have keep : ∀ d, GoodD n d → ∀ g : Int → Int, (∀ u ∈ c.vars, g u ∈ vals (domAt d u)) → sumG c.vars c.coefs g ≠ c.rhs → [] ∉ rotherW d c ∧ ∀ u ∈ c.vars, g u ∈ vals (domAt (rotherW d c) u) := fun d gd g hg hne => by
    obtain ⟨a, ha, hag⟩ := supp_of gd hc.vin hg
    have hw : WholeC c d := hc.whole gd
    have hs := rother_supp hw h.pos ha (by rw [plain_sumG hag]; exact hne)
    refine ⟨hs.ne, fun u hu => ?_⟩
    have hv := hc.vin u hu
    have := hs.at hv.1 (by rw [(rother_fine hw h.pos).1, gd.len]; exact hv.2)
    rwa [hag u hu] at this
  refine ⟨fun d out gd he => ?_, fun d gd he g hg => ?_, hc.vin, h.ne⟩
  · have hA := hans d gd
    rw [he] at hA
    have hsub := lin_sub (h.ok gd) hA
    have hw : WholeC c d := hc.whole gd
    unfold neO at he
    split at he
    · cases he
    · rename_i hno
      obtain rfl := Option.some.inj he
      obtain ⟨go, hle⟩ := GoodD.of_sub gd hsub (rother_fine hw h.pos).2 hno
      refine ⟨go, fun v hv x => ⟨fun hx => ?_, ?_⟩, fun v h0 hv => rother_off h.pos hc.vl (fun v hv => (hc.vin v hv).1) h0 hv⟩
      · refine Classical.byContradiction fun hn => ?_
        have hx0 := hle.2 v x (hc.vin v hv).1 hx
        have hall : ∀ g : Int → Int, (∀ u ∈ c.vars, g u ∈ vals (domAt d u)) → g v = x → sumG c.vars c.coefs g = c.rhs := fun g h1 h2 => by
          refine Classical.byContradiction fun h3 => hn ⟨g, h1, decide_eq_true ?_, h2⟩
          rw [sumL_map]; exact h3
        obtain ⟨q, hq, rfl⟩ := zip_var hc.vl hv
        have hex : ∀ u : Int, ∃ y, u ∈ c.vars → y ∈ vals (domAt d u) := fun u => by
          by_cases hu : u ∈ c.vars
          · obtain ⟨y, hy⟩ := gd.ne (hc.vin u hu).2
            exact ⟨y, fun _ => hy⟩
          · exact ⟨0, fun h => absurd h hu⟩
        let g0 : Int → Int := fun u => if u = q.1 then x else (hex u).choose
        have hg0 : ∀ u ∈ c.vars, g0 u ∈ vals (domAt d u) := fun u hu => by
          simp only [g0]
          split
          · rename_i e; rw [e]; exact hx0
          · exact (hex u).choose_spec hu
        have hg0x : g0 q.1 = x := if_pos rfl
        have hs0 := hall g0 hg0 hg0x
        have single : ∀ p ∈ c.vars.zip c.coefs, p.1 ≠ q.1 → ¬ 1 < (vals (domAt d p.1)).length := fun p hp hpq => by
          have hpv := (List.of_mem_zip hp).1
          have heq : ∀ y ∈ vals (domAt d p.1), y = g0 p.1 := fun y hy => by
            have h1 := hall (fun u => if u = p.1 then y else g0 u) (fun u hu => by
              by_cases e : u = p.1
              · rw [if_pos e, e]; exact hy
              · rw [if_neg e]; exact hg0 u hu) ((if_neg (Ne.symm hpq)).trans hg0x)
            have h2 : sumG c.vars c.coefs (fun u => if u = p.1 then y else g0 u) = sumG c.vars c.coefs g0 - p.2 * g0 p.1 + p.2 * y := by
              unfold sumG
              rw [sum_upd (f := fun r : Int × Int => r.2 * g0 r.1) (f' := fun r => r.2 * (if r.1 = p.1 then y else g0 r.1)) (zip_nodup hc.nod) hp fun r hr hrp => ?_, if_pos rfl]
              rw [if_neg fun e => hrp (zip_uniq hc.nod hr hp e)]
            have hk := (hc.ck _ (List.of_mem_zip hp).2).1
            have h3 : p.2 * y = p.2 * g0 p.1 := by omega
            exact Int.eq_of_mul_eq_mul_left hk h3
          have hu := vals_up (gd.few.fine _ (domAt_mem (v := p.1) (by rw [gd.len]; exact (hc.vin _ hpv).2))).ok
          intro hl
          cases hv2 : vals (domAt d p.1) with
          | nil => rw [hv2] at hl; simp at hl
          | cons y l =>
            cases l with
            | nil => rw [hv2] at hl; simp at hl
            | cons z l =>
              rw [hv2] at hu heq
              have h4 := (List.pairwise_cons.1 hu).1 z (.head _)
              have h5 := heq y (.head _)
              have h6 := heq z (.tail _ (.head _))
              omega
        have hzl : (c.vars.zip c.coefs).length = c.vars.length := by have := hc.vl; simp; omega
        have hterm : ∀ (j : Nat) t, (termsOf d c.vars c.coefs)[j]? = some t → ∃ p, (c.vars.zip c.coefs)[j]? = some p ∧ t = (domAt d p.1, p.2) := fun j t ht => by
          unfold termsOf at ht
          rw [List.getElem?_map] at ht
          cases hp : (c.vars.zip c.coefs)[j]? with
          | none => rw [hp] at ht; cases ht
          | some p => rw [hp] at ht; exact ⟨p, rfl, (Option.some.inj ht).symm⟩
        have hmulti : ∀ (j : Nat) t, (termsOf d c.vars c.coefs)[j]? = some t → 1 < (vals t.1).length → (c.vars.zip c.coefs)[j]? = some q := fun j t ht hl => by
          obtain ⟨p, hp, rfl⟩ := hterm j t ht
          have hpm := List.mem_of_getElem? hp
          by_cases e : p.1 = q.1
          · rw [hp, zip_uniq hc.nod hpm hq e]
          · exact absurd hl (single p hpm e)
        have hone : ∀ (j k : Nat), (c.vars.zip c.coefs)[j]? = some q → (c.vars.zip c.coefs)[k]? = some q → j = k := fun j k h1 h2 => by
          have hj := (List.getElem?_eq_some_iff.1 h1).1
          have hk := (List.getElem?_eq_some_iff.1 h2).1
          have e1 : (c.vars.zip c.coefs)[j] = (c.vars.zip c.coefs)[k] := by
            rw [List.getElem?_eq_getElem hj] at h1
            rw [List.getElem?_eq_getElem hk] at h2
            exact (Option.some.inj h1).trans (Option.some.inj h2).symm
          exact (List.getElem_inj (zip_nodup hc.nod)).1 e1
        obtain ⟨t1, t2⟩ := rotherGo_two (termsOf d c.vars c.coefs) 0 0 0 0
        let ts : List ((List (Int × Int) × Int) × Int) := (c.vars.zip c.coefs).map fun p => ((domAt d p.1, p.2), g0 p.1)
        have et : ts.map (·.1) = termsOf d c.vars c.coefs := by simp only [ts, List.map_map]; rfl
        have eS : (ts.map fun t => t.1.2 * t.2).sum = sumG c.vars c.coefs g0 := by simp only [ts, List.map_map]; rfl
        have hvt : ValsIn ts := by
          intro t ht
          obtain ⟨p, hp, rfl⟩ := List.mem_map.1 ht
          exact hg0 _ (List.of_mem_zip hp).1
        have hww := terms_weight (d := d) hc.vl
        have hb := hc.big
        have har := absK_pos c.rhs
        have key := rotherGo_sum (B := weightK c.coefs) (by omega) ts 0 0 0 0 (by rw [et]; exact terms_ok hw.fine) hvt (by rw [et]; omega) (by rw [et]; omega)
        rw [et, eS, hs0] at key
        obtain ⟨k1, _, k3⟩ := key
        have hin := rotherGo_in (termsOf d c.vars c.coefs) 0 0 0 0 c.vars.length h.pos (by simp [termsOf]; have := hc.vl; omega) (Nat.le_refl _)
        unfold rotherW at hno hx
        simp only at hno hx
        by_cases hm2 : 1 < (rotherGo 0 (termsOf d c.vars c.coefs) 0 0 0).1
        · obtain ⟨j, k, t, u, h1, h2, h3, h4, h5⟩ := t2 (by omega)
          exact h1 (hone j k (hmulti j t h2 h4) (hmulti k u h3 h5))
        · rw [if_neg hm2] at hno hx
          by_cases hm0 : (rotherGo 0 (termsOf d c.vars c.coefs) 0 0 0).1 = 0
          · rw [if_pos hm0, if_pos (by have := (k1 hm0).1; omega)] at hno
            refine hno ((set_empty ?_ gd.some').2 rfl)
            rw [gd.len]
            exact (hc.vin _ (varAt_mem (c := c) h.pos)).2
          · rw [if_neg hm0] at hx
            obtain ⟨j, t, j1, j2, j3⟩ := t1 (by omega)
            obtain ⟨j', t', i1, i2, i3⟩ := k3 (by omega)
            have ejj : j' = j := by omega
            subst ejj
            have hjq := hmulti _ t j2 j3
            have hj : j' < c.vars.length := by have := (List.getElem?_eq_some_iff.1 hjq).1; omega
            have ev : varAt c j' = q.1 ∧ coefAt c j' = q.2 := by
              have h1 := (List.getElem?_eq_some_iff.1 hjq).2
              have hjc : j' < c.coefs.length := by have := hc.vl; omega
              rw [List.getElem_zip] at h1
              rw [← h1]
              exact ⟨getD_at hj, getD_at hjc⟩
            have et' : t' = ((domAt d q.1, q.2), x) := by
              simp only [ts, List.getElem?_map, hjq, Option.map_some, Option.some.injEq] at i2
              rw [← i2, hg0x]
            rw [et'] at i3
            simp only [Int.zero_add] at i3
            rw [j1, Nat.zero_add, ev.1, ev.2] at hx
            have hqv := hc.vin _ (List.of_mem_zip hq).1
            have hxd := gd.few.fine _ (domAt_mem (v := q.1) (by rw [gd.len]; exact hqv.2))
            have e : domAt (d.set q.1.toNat (pack ((vals (domAt d q.1)).filter fun v => decide (wr ((rotherGo 0 (termsOf d c.vars c.coefs) 0 0 0).2.1 + wr (q.2 * v)) ≠ c.rhs)))) q.1 = pack ((vals (domAt d q.1)).filter fun v => decide (wr ((rotherGo 0 (termsOf d c.vars c.coefs) 0 0 0).2.1 + wr (q.2 * v)) ≠ c.rhs)) := by
              unfold domAt
              rw [List.getD_eq_getElem?_getD, List.getElem?_set_self (by rw [gd.len]; exact hqv.2)]; rfl
            rw [e, vals_pack (filter_up (vals_up hxd.ok)), List.mem_filter, decide_eq_true_eq] at hx
            have b := hxd.val _ hx0
            have hk := hc.ck _ (List.of_mem_zip hq).2
            have m := mul_in q.2 x b.1 b.2
            have hk2 := hk.2
            have hrb : -c.rhs ≤ absK c.rhs ∧ c.rhs ≤ absK c.rhs := by unfold absK; omega
            have hwk := weightK_pos c.coefs
            refine hx.2 ?_
            simp only [wr]
            rw [wrap_id (n := q.2 * x) (by omega) (by omega), wrap_id (by omega) (by omega)]
            omega
      · rintro ⟨g, h3, h4, rfl⟩
        have h4 := of_decide_eq_true h4
        rw [sumL_map] at h4
        exact (keep d gd g h3 h4).2 v hv
  · refine decide_eq_false fun hne => ?_
    rw [sumL_map] at hne
    have := (keep d gd g hg hne).1
    unfold neO at he
    rw [if_neg this] at he
    cases he
open Classical in
noncomputable def linO (c : Con) (d : Doms) : Option Doms := if h : ∃ R : Option Doms, ∃ N, LinAns d c R N then h.choose else none
theorem linO_ans {d : Doms} {c : Con} (h : SumOk d c) : ∃ N, LinAns d c (linO c d) N := by
  obtain ⟨R, N, N', h1, h2, h3⟩ := lin_ans h
  have hex : ∃ R : Option Doms, ∃ N, LinAns d c R N := ⟨R, N, h1⟩
  unfold linO
  rw [dif_pos hex]
  exact hex.choose_spec
theorem sumG_turned {vars coefs : List Int} (g : Int → Int) (h : ∀ k ∈ coefs, CoefOk k) : sumG vars (turnedW coefs) g = -sumG vars coefs g := by
  unfold sumG turnedW
  induction vars generalizing coefs with
  | nil => simp
  | cons v vars ih =>
    cases coefs with
    | nil => simp
    | cons k coefs =>
      have e := (turned_ok (h k (.head _))).1
      have := ih fun k hk => h k (.tail _ hk)
      simp only [List.map_cons, List.zip_cons_cons, List.sum_cons] at this ⊢
      rw [this, e, Int.neg_mul]
      omega
theorem SumC.back {n : Nat} {vars coefs : List Int} {rhs : Int} (h : SumC n vars coefs rhs) : SumC n vars (turnedW coefs) (wr (0 - rhs)) := by
  have hb := h.big
  have hp := weightK_pos coefs
  refine ⟨by rw [h.vl]; simp [turnedW], h.vin, fun k hk => ?_, h.nod, ?_, h.few⟩
  · obtain ⟨k0, hk0, rfl⟩ := List.mem_map.1 hk
    exact (turned_ok (h.ck _ hk0)).2
  · rw [weightK_turned _ h.ck, (wr_neg (by omega)).2]
    exact hb
theorem lin_step {n : Nat} {c : Con} (h : LinC n c) : StepOK n c.vars (fun g => heldR c.op (sumG c.vars c.coefs g) c.rhs = true) (linO c) := by
  have hc := h.sum
  have hopc : c.op = 0 ∨ c.op = 1 ∨ c.op = 2 := by have := h.op; omega
  rcases hopc with h0 | h0 | h0
  · refine ((stepM_ok hc h.ne).congr fun d gd => ?_).iff fun g => ?_
    · obtain ⟨N, hN⟩ := linO_ans (h.ok gd)
      unfold LinAns at hN
      rw [if_neg gd.some', if_neg (by omega)] at hN
      rw [lin0_eq hc h0 gd hN]
      rfl
    · unfold heldR
      rw [if_pos h0, decide_eq_true_eq]
  · have hE : ∀ d, GoodD n d → Ends leD (GoodD n) (cutsF c) [true, false] d (linO c d) := fun d gd => by
      obtain ⟨N, hN⟩ := linO_ans (h.ok gd)
      unfold LinAns at hN
      rw [if_neg gd.some', if_neg (by omega)] at hN
      exact lin1_ends hc hc.back h0 d N d _ (Come.refl (orderD n) gd) hN
    refine (Ends.step hE (P := fun b g => if b = true then sumG c.vars c.coefs g ≤ c.rhs else sumG c.vars (turnedW c.coefs) g ≤ wr (0 - c.rhs)) (us := c.vars) (fun b _ => ?_) hc.vin).iff fun g => ?_
    · cases b
      · exact (stepM_ok hc.back h.ne).iff fun g => by simp
      · exact (stepM_ok hc h.ne).iff fun g => by simp
    · have hb := hc.big
      have hp := weightK_pos c.coefs
      have e1 := (wr_neg (rhs := c.rhs) (by omega)).1
      have e2 := sumG_turned (vars := c.vars) g hc.ck
      unfold heldR
      rw [if_neg (by omega), h0]
      simp only [List.mem_cons, List.not_mem_nil, or_false, forall_eq_or_imp, forall_eq, if_true, Bool.false_eq_true, if_false, e1, e2]
      simp
      omega
  · refine ((suppN h h0).step.congr fun d gd => ?_).iff fun g => ?_
    · obtain ⟨N, hN⟩ := linO_ans (h.ok gd)
      have hw : WholeC c d := hc.whole gd
      unfold LinAns at hN
      rw [if_neg gd.some', if_pos h0, other_same hw h.pos] at hN
      exact hN
    · unfold heldR
      rw [if_neg (by omega), h0, sumL_map]
      simp
end Go.Proofs.YtlcobmehnaeebaaGreat
namespace Go.Proofs.YtlcobmehnaeebaaGreat
open Go Go.RowKit
set_option linter.unusedVariables false
set_option linter.unusedSimpArgs false

theorem held_not {c : Con} (g : Int → Int) (hck : ∀ k ∈ c.coefs, CoefOk k) (hop : 0 ≤ c.op ∧ c.op ≤ 2) (hr : absK c.rhs ≤ 4611686018427387904) : heldR (notW c).op (sumG (notW c).vars (notW c).coefs g) (notW c).rhs = !heldR c.op (sumG c.vars c.coefs g) c.rhs := by
  have har : absK c.rhs = max c.rhs (-c.rhs) := rfl
  have hopc : c.op = 0 ∨ c.op = 1 ∨ c.op = 2 := by omega
  rcases hopc with h0 | h0 | h0
  · have en : notW c = { c with coefs := turnedW c.coefs, rhs := wr (wr (0 - c.rhs) - 1) } := by unfold notW; rw [if_pos h0]
    have e1 : wr (0 - c.rhs) = -c.rhs := by rw [wr, wrap_id (by omega) (by omega)]; omega
    have e2 : wr (wr (0 - c.rhs) - 1) = -c.rhs - 1 := by rw [e1, wr, wrap_id (by omega) (by omega)]
    rw [en]
    simp only [heldR, h0, if_true, e2, sumG_turned g hck]
    by_cases hh : sumG c.vars c.coefs g ≤ c.rhs
    · rw [decide_eq_true hh, decide_eq_false (by omega)]; rfl
    · rw [decide_eq_false hh, decide_eq_true (by omega)]; rfl
  · have en : notW c = { c with op := 2 } := by unfold notW; rw [if_neg (by omega), if_pos h0]
    rw [en]
    simp [heldR, h0]
  · have en : notW c = { c with op := 1 } := by unfold notW; rw [if_neg (by omega), if_neg (by omega), if_pos h0]
    rw [en]
    simp [heldR, h0]
theorem terms_congr {a b : Doms} {vars coefs : List Int} (h : ∀ u ∈ vars, domAt a u = domAt b u) : termsOf a vars coefs = termsOf b vars coefs :=
  List.map_congr_left fun p hp => by rw [h _ (List.of_mem_zip hp).1]
theorem ends_mono {n : Nat} {a b : Doms} {vars coefs : List Int} {rhs : Int} (hc : SumC n vars coefs rhs) (ga : GoodD n a) (gb : GoodD n b) (h : leD a b) : lowS (termsOf b vars coefs) ≤ lowS (termsOf a vars coefs) ∧ highS (termsOf a vars coefs) ≤ highS (termsOf b vars coefs) := by
  have low : ∀ ks : List Int, lowS (termsOf b vars ks) ≤ lowS (termsOf a vars ks) := fun ks => by
    rw [lowS_zip, lowS_zip]
    refine (sum_le_sum fun p hp => ?_).1
    have hv := hc.vin _ (List.of_mem_zip hp).1
    have hm : domAt a p.1 ∈ a := domAt_mem (by rw [ga.len]; exact hv.2)
    exact lowE_mono (ga.few.fine _ hm).ok (gb.few.fine _ (domAt_mem (by rw [gb.len]; exact hv.2))).ok (fun e => ga.some' (e ▸ hm)) (fun x hx => h.2 p.1 x hv.1 hx) p.2
  have h2 := low (turnedW coefs)
  rw [low_turned hc.ck, low_turned hc.ck] at h2
  exact ⟨low coefs, by omega⟩
theorem so_mono {n : Nat} {a b : Doms} {c : Con} (hc : LinC n c) (ga : GoodD n a) (gb : GoodD n b) (h : leD a b) (hs : soW (endsW b c.vars c.coefs) c = true) : soW (endsW a c.vars c.coefs) c = true := by
  obtain ⟨h1, h2⟩ := ends_mono hc.sum ga gb h
  have hle : lowS (termsOf a c.vars c.coefs) ≤ highS (termsOf a c.vars c.coefs) := (sums_in (terms_ok (hc.sum.whole ga).fine) (terms_ne (hc.sum.whole ga))).2.1
  rw [ends_whole (hc.sum.whole gb)] at hs
  rw [ends_whole (hc.sum.whole ga)]
  unfold soW at hs ⊢
  simp only [Bool.true_eq_false, if_false] at hs ⊢
  split
  · rename_i h0
    rw [if_pos h0] at hs
    exact decide_eq_true (by have := of_decide_eq_true hs; omega)
  · rename_i h0
    rw [if_neg h0] at hs
    split
    · rename_i h3
      rw [if_pos h3] at hs
      simp only [Bool.and_eq_true, decide_eq_true_eq] at hs ⊢
      omega
    · rename_i h3
      rw [if_neg h3] at hs
      simp only [Bool.or_eq_true, decide_eq_true_eq] at hs ⊢
      omega
theorem linO_stay {n : Nat} {c : Con} (hc : LinC n c) {d : Doms} (gd : GoodD n d) (hs : soW (endsW d c.vars c.coefs) c = true) : linO c d = some d := by
  obtain ⟨R, N, N', h1, h2, h3⟩ := lin_ans (hc.ok gd)
  obtain ⟨M, hM⟩ := linO_ans (hc.ok gd)
  have e := lin_det hM h1
  rw [e]
  exact lin_stay (hc.ok gd) gd.some' h1 h3 hs
noncomputable def reifO (c : Con) (d : Doms) : Option Doms := if truthR (domAt d c.b) = true then reifW d c (linO (sumOf c) d) (linO (notW (sumOf c)) d) else some d
theorem truth_vals {x : List (Int × Int)} (h : DomOk x) : truthR x = true ↔ ∀ v ∈ vals x, 0 ≤ v ∧ v ≤ 1 := by
  constructor
  · intro ht v hv
    obtain ⟨r, hr, h1, h2⟩ := mem_vals.1 hv
    have := List.all_eq_true.1 ht r hr
    simp at this
    omega
  · intro hv
    refine List.all_eq_true.2 fun r hr => ?_
    have h0 := h.1 r hr
    have h1 := hv r.1 (mem_vals.2 ⟨r, hr, Int.le_refl _, h0⟩)
    have h2 := hv r.2 (mem_vals.2 ⟨r, hr, h0, Int.le_refl _⟩)
    simp
    omega
theorem GoodD.at_ {n : Nat} {d : Doms} (h : GoodD n d) {v : Int} (hv : v.toNat < n) : DomOk (domAt d v) ∧ domAt d v ≠ [] := by
  have hm : domAt d v ∈ d := domAt_mem (by rw [h.len]; exact hv)
  exact ⟨(h.few.fine _ hm).ok, fun e => h.some' (e ▸ hm)⟩
theorem dom_set {d : Doms} {b v : Int} {x : List (Int × Int)} (hb : 0 ≤ b) (hl : b.toNat < d.length) (hv : 0 ≤ v) : domAt (d.set b.toNat x) v = if v = b then x else domAt d v := by
  unfold domAt
  rw [List.getD_eq_getElem?_getD]
  split
  · rename_i e; subst e; rw [List.getElem?_set_self hl]; rfl
  · rename_i e; rw [List.getElem?_set_ne (by omega), ← List.getD_eq_getElem?_getD]
theorem setD_same {d : Doms} {b : Int} (hl : b.toNat < d.length) : d.set b.toNat (domAt d b) = d := by
  refine List.ext_getElem? fun i => ?_
  by_cases e : b.toNat = i
  · subst e; rw [List.getElem?_set_self hl, domAt_some hl]
  · rw [List.getElem?_set_ne e]
theorem keep_ok {n : Nat} {d : Doms} {b w : Int} (gd : GoodD n d) (hb : 0 ≤ b ∧ b.toNat < n) {out : Doms} (he : keepO d b w = some out) : GoodD n out ∧ leD out d ∧ (∀ v, 0 ≤ v → v ≠ b → domAt out v = domAt d v) ∧ (∀ x, x ∈ vals (domAt out b) ↔ x ∈ vals (domAt d b) ∧ x = w) := by
  have hbl : b.toNat < d.length := by rw [gd.len]; exact hb.2
  obtain ⟨hok, hne⟩ := gd.at_ hb.2
  unfold keepO at he
  split at he
  · cases he
  · rename_i hx
    obtain rfl := Option.some.inj he
    obtain ⟨c1, c2⟩ := domCut_ok hok w w
    generalize domCut (domAt d b) w w = x at *
    have hsub : Sub (d.set b.toNat x) d := sub_set fun y hy v hv => by
      rw [domAt_some hbl] at hy
      exact Option.some.inj hy ▸ ((c2 v).1 hv).1
    have hfx : Fine x := (gd.few.fine _ (domAt_mem hbl)).cut c1 fun v hv => ((c2 v).1 hv).1
    obtain ⟨g1, g2⟩ := GoodD.of_sub gd hsub (mem_set gd.few.fine hfx) (fun hm => hx ((set_empty hbl gd.some').1 hm))
    refine ⟨g1, g2, fun v h0 hv => by rw [dom_set hb.1 hbl h0, if_neg hv], fun y => ?_⟩
    rw [dom_set hb.1 hbl hb.1, if_pos rfl, c2]
    constructor
    · rintro ⟨h1, h2, h3⟩; exact ⟨h1, by omega⟩
    · rintro ⟨h1, rfl⟩; exact ⟨h1, Int.le_refl _, Int.le_refl _⟩
theorem keep_some {n : Nat} {d : Doms} {b w : Int} (gd : GoodD n d) (hb : 0 ≤ b ∧ b.toNat < n) (hw : w ∈ vals (domAt d b)) : ∃ out, keepO d b w = some out := by
  obtain ⟨hok, hne⟩ := gd.at_ hb.2
  unfold keepO
  rw [if_neg]
  · exact ⟨_, rfl⟩
  · intro e
    have := ((domCut_ok hok w w).2 w).2 ⟨hw, Int.le_refl _, Int.le_refl _⟩
    rw [e] at this; cases this
theorem keep_in {n : Nat} {d : Doms} {b w : Int} (gd : GoodD n d) (hb : 0 ≤ b ∧ b.toNat < n) {out : Doms} (he : keepO d b w = some out) : w ∈ vals (domAt d b) := by
  obtain ⟨g1, g2, g3, g4⟩ := keep_ok gd hb he
  obtain ⟨x, hx⟩ := g1.ne hb.2
  obtain ⟨h1, rfl⟩ := (g4 x).1 hx
  exact h1
theorem keep_same {n : Nat} {d : Doms} {b w : Int} (gd : GoodD n d) (hb : 0 ≤ b ∧ b.toNat < n) : keepO d b w = some d ↔ vals (domAt d b) = [w] := by
  obtain ⟨hok, hne⟩ := gd.at_ hb.2
  constructor
  · intro he
    obtain ⟨g1, g2, g3, g4⟩ := keep_ok gd hb he
    refine up_ext (vals_up hok) (List.pairwise_singleton _ _) fun x => ?_
    rw [g4 x, List.mem_singleton]
    exact ⟨fun h => h.2, fun h => ⟨h ▸ keep_in gd hb he, h⟩⟩
  · intro hv
    obtain ⟨out, ho⟩ := keep_some gd hb (w := w) (by rw [hv]; exact .head _)
    obtain ⟨g1, g2, g3, g4⟩ := keep_ok gd hb ho
    rw [ho]
    congr 1
    refine doms_ext g1 gd fun v x h0 => ?_
    by_cases e : v = b
    · subst e
      rw [g4 x, hv, List.mem_singleton]
      exact ⟨fun h => h.1, fun h => ⟨h, h⟩⟩
    · rw [g3 v h0 e]
theorem has_iff {x : List (Int × Int)} {v : Int} : hasV x v = true ↔ v ∈ vals x := by
  unfold hasV
  rw [List.any_eq_true, mem_vals]
  simp
structure ReifC (n : Nat) (c : Con) : Prop where
  yes : LinC n (sumOf c)
  no : LinC n (notW (sumOf c))
  b : 0 ≤ c.b ∧ c.b.toNat < n
  apart : c.b ∉ c.vars
  small : absK c.rhs ≤ 4611686018427387904
theorem not_vars (c : Con) : (notW c).vars = c.vars := by
  unfold notW
  split
  · rfl
  · split
    · rfl
    · split <;> rfl
theorem reif_not {n : Nat} {c : Con} (h : ReifC n c) {d : Doms} (gd : GoodD n d) (hy : yesW d c = true) (hn : noW d c = true) : False := by
  have hdl : 0 < d.length := by rw [gd.len]; have := h.b; omega
  obtain ⟨a, ha⟩ := supp_some gd.few.fine gd.some' hdl
  have h1 := so_holds (h.yes.ok gd).fine (by have := h.yes.sum.big; have := absK_pos (sumOf c).rhs; omega) h.yes.op ha hy
  have h2 := not_holds (h.yes.ok gd) ha hn
  rw [h1] at h2; cases h2
theorem reif_step {n : Nat} {c : Con} (h : ReifC n c) : StepOK n (c.vars ++ [c.b]) (fun g => (0 ≤ g c.b ∧ g c.b ≤ 1) → (heldR c.op (sumG c.vars c.coefs g) c.rhs = true ∧ g c.b = 1) ∨ (heldR c.op (sumG c.vars c.coefs g) c.rhs = false ∧ g c.b = 0)) (reifO c) := by
  have sy := lin_step h.yes
  have sn := lin_step h.no
  have hvn : (notW (sumOf c)).vars = c.vars := not_vars (sumOf c)
  rw [hvn] at sn
  have hb := h.b
  have tr : ∀ d, GoodD n d → (truthR (domAt d c.b) = true ↔ ∀ v ∈ vals (domAt d c.b), 0 ≤ v ∧ v ≤ 1) := fun d gd => truth_vals (gd.at_ hb.2).1
  have ym : ∀ a b, GoodD n a → GoodD n b → leD a b → yesW b c = true → yesW a c = true := fun a b ga gb hle hy => so_mono (c := sumOf c) h.yes ga gb hle hy
  have nm : ∀ a b, GoodD n a → GoodD n b → leD a b → noW b c = true → noW a c = true := fun a b ga gb hle hy => so_mono (c := notW (sumOf c)) h.no ga gb hle hy
  have yst : ∀ a, GoodD n a → yesW a c = true → linO (sumOf c) a = some a := fun a ga hy => linO_stay (c := sumOf c) h.yes ga hy
  have nst : ∀ a, GoodD n a → noW a c = true → linO (notW (sumOf c)) a = some a := fun a ga hy => linO_stay (c := notW (sumOf c)) h.no ga hy
  have hf : ∀ d, GoodD n d → reifO c d = if truthR (domAt d c.b) = true then (if yesW d c = true then keepO d c.b 1 else if noW d c = true then keepO d c.b 0 else if hasV (domAt d c.b) 0 = false then linO (sumOf c) d else if hasV (domAt d c.b) 1 = false then linO (notW (sumOf c)) d else some d) else some d := fun d gd => by
    unfold reifO reifW
    rw [if_neg gd.some']
  have hin : ∀ u ∈ c.vars ++ [c.b], 0 ≤ u ∧ u.toNat < n := fun u hu => by
    rcases List.mem_append.1 hu with hu | hu
    · exact sy.in' u hu
    · rw [List.mem_singleton.1 hu]; exact hb
  refine StepOK.congr (f := fun d => if truthR (domAt d c.b) = true then (if yesW d c = true then keepO d c.b 1 else if noW d c = true then keepO d c.b 0 else if hasV (domAt d c.b) 0 = false then linO (sumOf c) d else if hasV (domAt d c.b) 1 = false then linO (notW (sumOf c)) d else some d) else some d) ⟨⟨fun a a' ga he => ?_, fun a a' b ga gb hle he => ?_⟩, fun a b ga gb ha hab => ?_, fun a out ga he v h0 hv => ?_, fun e ge g he => ?_, hin⟩ hf
  · split at he
    · split at he
      · obtain ⟨g1, g2, _⟩ := keep_ok ga hb he
        exact ⟨g1, g2⟩
      · split at he
        · obtain ⟨g1, g2, _⟩ := keep_ok ga hb he
          exact ⟨g1, g2⟩
        · split at he
          · exact sy.takes.less a a' ga he
          · split at he
            · exact sn.takes.less a a' ga he
            · obtain rfl := Option.some.inj he
              exact ⟨ga, (orderD n).refl a⟩
    · obtain rfl := Option.some.inj he
      exact ⟨ga, (orderD n).refl a⟩
  · -- of less less
    have hless : leD a' a := by
      split at he
      · split at he
        · exact (keep_ok ga hb he).2.1
        · split at he
          · exact (keep_ok ga hb he).2.1
          · split at he
            · exact (sy.takes.less a a' ga he).2
            · split at he
              · exact (sn.takes.less a a' ga he).2
              · exact Option.some.inj he ▸ (orderD n).refl a
      · exact Option.some.inj he ▸ (orderD n).refl a
    have stay : ∃ b', some b = some b' ∧ leD a' b' := ⟨b, rfl, (orderD n).trans _ _ _ hless hle⟩
    by_cases htb : truthR (domAt b c.b) = true
    · have hta : truthR (domAt a c.b) = true := (tr a ga).2 fun v hv => (tr b gb).1 htb v (hle.2 _ v hb.1 hv)
      rw [if_pos hta] at he
      rw [if_pos htb]
      have kmono : ∀ w, keepO a c.b w = some a' → ∃ b', keepO b c.b w = some b' ∧ leD a' b' := fun w hk => by
        obtain ⟨g1, g2, g3, g4⟩ := keep_ok ga hb hk
        obtain ⟨b', hb'⟩ := keep_some gb hb (hle.2 _ w hb.1 (keep_in ga hb hk))
        obtain ⟨k1, k2, k3, k4⟩ := keep_ok gb hb hb'
        refine ⟨b', hb', by rw [g1.len, k1.len], fun v x h0 hx => ?_⟩
        by_cases e : v = c.b
        · subst e
          obtain ⟨h1, h2⟩ := (g4 x).1 hx
          exact (k4 x).2 ⟨hle.2 _ x h0 h1, h2⟩
        · rw [g3 v h0 e] at hx
          rw [k3 v h0 e]
          exact hle.2 v x h0 hx
      by_cases hyb : yesW b c = true
      · rw [if_pos hyb]
        rw [if_pos (ym a b ga gb hle hyb)] at he
        exact kmono 1 he
      · rw [if_neg hyb]
        by_cases hnb : noW b c = true
        · rw [if_pos hnb]
          have hna := nm a b ga gb hle hnb
          rw [if_neg (fun hy => reif_not h ga hy hna), if_pos hna] at he
          exact kmono 0 he
        · rw [if_neg hnb]
          by_cases h0b : hasV (domAt b c.b) 0 = false
          · rw [if_pos h0b]
            have h0a : hasV (domAt a c.b) 0 = false := by
              cases hh : hasV (domAt a c.b) 0 with
              | false => rfl
              | true => rw [has_iff.2 (hle.2 _ 0 hb.1 (has_iff.1 hh))] at h0b; cases h0b
            have hle' : a' = a ∨ linO (sumOf c) a = some a' := by
              by_cases hya : yesW a c = true
              · rw [if_pos hya] at he
                refine .inl ?_
                have hv : vals (domAt a c.b) = [1] := by
                  obtain ⟨x, hx⟩ := ga.ne hb.2
                  have hone : ∀ y ∈ vals (domAt a c.b), y = 1 := fun y hy => by
                    have h1 := (tr a ga).1 hta y hy
                    have h2 : y ≠ 0 := fun e => by rw [e] at hy; rw [has_iff.2 hy] at h0a; cases h0a
                    omega
                  exact up_ext (vals_up (ga.at_ hb.2).1) (List.pairwise_singleton _ _) fun y => ⟨fun hy => List.mem_singleton.2 (hone y hy), fun hy => by rw [List.mem_singleton.1 hy, ← hone x hx]; exact hx⟩
                rw [(keep_same ga hb).2 hv] at he
                exact (Option.some.inj he).symm
              · rw [if_neg hya] at he
                by_cases hna : noW a c = true
                · rw [if_pos hna] at he
                  have := keep_in ga hb he
                  rw [has_iff.2 this] at h0a; cases h0a
                · rw [if_neg hna, if_pos h0a] at he
                  exact .inr he
            rcases hle' with e | hl
            · subst e
              by_cases hya : yesW a' c = true
              · exact sy.takes.mono a' a' b ga gb hle (yst a' ga hya)
              · rw [if_neg hya] at he
                by_cases hna : noW a' c = true
                · rw [if_pos hna] at he
                  have := keep_in ga hb he
                  rw [has_iff.2 this] at h0a; cases h0a
                · rw [if_neg hna, if_pos h0a] at he
                  exact sy.takes.mono a' a' b ga gb hle he
            · exact sy.takes.mono a a' b ga gb hle hl
          · rw [if_neg h0b]
            by_cases h1b : hasV (domAt b c.b) 1 = false
            · rw [if_pos h1b]
              have h1a : hasV (domAt a c.b) 1 = false := by
                cases hh : hasV (domAt a c.b) 1 with
                | false => rfl
                | true => rw [has_iff.2 (hle.2 _ 1 hb.1 (has_iff.1 hh))] at h1b; cases h1b
              have hone : ∀ y ∈ vals (domAt a c.b), y = 0 := fun y hy => by
                have h1 := (tr a ga).1 hta y hy
                have h2 : y ≠ 1 := fun e => by rw [e] at hy; rw [has_iff.2 hy] at h1a; cases h1a
                omega
              have hv : vals (domAt a c.b) = [0] := by
                obtain ⟨x, hx⟩ := ga.ne hb.2
                exact up_ext (vals_up (ga.at_ hb.2).1) (List.pairwise_singleton _ _) fun y => ⟨fun hy => List.mem_singleton.2 (hone y hy), fun hy => by rw [List.mem_singleton.1 hy, ← hone x hx]; exact hx⟩
              have h0a : ¬ hasV (domAt a c.b) 0 = false := fun e => by
                have := has_iff (x := domAt a c.b) (v := 0)
                rw [e, hv] at this
                simp at this
              by_cases hya : yesW a c = true
              · rw [if_pos hya] at he
                have := keep_in ga hb he
                rw [has_iff.2 this] at h1a; cases h1a
              · rw [if_neg hya] at he
                by_cases hna : noW a c = true
                · rw [if_pos hna, (keep_same ga hb).2 hv] at he
                  obtain rfl := Option.some.inj he
                  exact sn.takes.mono a a b ga gb hle (nst a ga hna)
                · rw [if_neg hna, if_neg h0a, if_pos h1a] at he
                  exact sn.takes.mono a a' b ga gb hle he
            · rw [if_neg h1b]
              exact stay
    · rw [if_neg htb]
      exact stay
  · -- locality
    have hB := hab c.b (List.mem_append_right _ (.head _))
    have hV : ∀ u ∈ c.vars, domAt a u = domAt b u := fun u hu => hab u (List.mem_append_left _ hu)
    have ey : yesW b c = yesW a c := by unfold yesW endsW; rw [terms_congr hV]
    have en : noW b c = noW a c := by unfold noW endsW; rw [hvn, terms_congr hV]
    rw [ey, en, ← hB]
    split
    · rename_i ht
      rw [if_pos ht] at ha
      split
      · rename_i hy
        rw [if_pos hy, keep_same ga hb] at ha
        rw [keep_same gb hb, ← hB]; exact ha
      · rename_i hy
        rw [if_neg hy] at ha
        split
        · rename_i hn
          rw [if_pos hn, keep_same ga hb] at ha
          rw [keep_same gb hb, ← hB]; exact ha
        · rename_i hn
          rw [if_neg hn] at ha
          split
          · rename_i h0
            rw [if_pos h0] at ha
            exact sy.stays a b ga gb ha hV
          · rename_i h0
            rw [if_neg h0] at ha
            split
            · rename_i h1
              rw [if_pos h1] at ha
              exact sn.stays a b ga gb ha hV
            · rfl
    · rfl
  · have hv1 : v ∉ c.vars := fun hm => hv (List.mem_append_left _ hm)
    have hv2 : v ≠ c.b := fun e => hv (List.mem_append_right _ (e ▸ .head _))
    split at he
    · split at he
      · exact (keep_ok ga hb he).2.2.1 v h0 hv2
      · split at he
        · exact (keep_ok ga hb he).2.2.1 v h0 hv2
        · split at he
          · exact sy.off a out ga he v h0 hv1
          · split at he
            · exact sn.off a out ga he v h0 hv1
            · obtain rfl := Option.some.inj he; rfl
    · obtain rfl := Option.some.inj he; rfl
  · -- known values
    have hB := he c.b (List.mem_append_right _ (.head _))
    have hV : ∀ u ∈ c.vars, vals (domAt e u) = [g u] := fun u hu => he u (List.mem_append_left _ hu)
    have py := sy.point e ge g hV
    have pn := sn.point e ge g hV
    have hhn := held_not (c := sumOf c) g h.yes.sum.ck h.yes.op h.small
    rw [hvn] at hhn
    have htr := tr e ge
    rw [hB] at htr
    simp only [List.mem_singleton, forall_eq] at htr
    by_cases ht : truthR (domAt e c.b) = true
    · have h01 := htr.1 ht
      rw [if_pos ht]
      have hsy : yesW e c = true → heldR c.op (sumG c.vars c.coefs g) c.rhs = true := fun hy => (py.1 (yst e ge hy))
      have hsn : noW e c = true → heldR c.op (sumG c.vars c.coefs g) c.rhs = false := fun hn => by
        have := pn.1 (nst e ge hn)
        rw [hhn] at this
        have := Bool.not_eq_true' _ ▸ this
        exact this
      have e0 : hasV (domAt e c.b) 0 = false ↔ g c.b = 1 := by
        have := has_iff (x := domAt e c.b) (v := 0)
        rw [hB, List.mem_singleton] at this
        rw [← Bool.not_eq_true, this]
        omega
      have e1 : hasV (domAt e c.b) 1 = false ↔ g c.b = 0 := by
        have := has_iff (x := domAt e c.b) (v := 1)
        rw [hB, List.mem_singleton] at this
        rw [← Bool.not_eq_true, this]
        omega
      by_cases hy : yesW e c = true
      · rw [if_pos hy, keep_same ge hb, hB, hsy hy]
        simp
        omega
      · rw [if_neg hy]
        by_cases hn : noW e c = true
        · rw [if_pos hn, keep_same ge hb, hB, hsn hn]
          simp
          omega
        · rw [if_neg hn]
          by_cases h1 : g c.b = 1
          · rw [if_pos (e0.2 h1), py]
            simp [h1]
            exact rfl
          · have h2 : g c.b = 0 := by omega
            rw [if_neg (fun hh => h1 (e0.1 hh)), if_pos (e1.2 h2), pn, hhn]
            simp [h2]
            exact rfl
    · rw [if_neg ht]
      have : ¬ (0 ≤ g c.b ∧ g c.b ≤ 1) := fun hh => ht (htr.2 hh)
      simp [this]
end Go.Proofs.YtlcobmehnaeebaaGreat
namespace Go.Proofs.YtlcobmehnaeebaaGreat
open Go Go.RowKit
set_option linter.unusedVariables false
set_option linter.unusedSimpArgs false

theorem StepOK.guard {n : Nat} {us : List Int} {P Q : (Int → Int) → Prop} {f : Doms → Option Doms} {C : Doms → Bool} (h : StepOK n us P f) (hm : ∀ a b, GoodD n a → GoodD n b → leD a b → C b = true → C a = true)
    (hl : ∀ a b, GoodD n a → GoodD n b → (∀ u ∈ us, domAt a u = domAt b u) → C a = C b) (hp : ∀ e, GoodD n e → ∀ g : Int → Int, (∀ u ∈ us, vals (domAt e u) = [g u]) → (C e = true ↔ Q g)) : StepOK n us (fun g => Q g → P g) (fun d => if C d = true then f d else some d) := by
  refine ⟨⟨fun a a' ga he => ?_, fun a a' b ga gb hle he => ?_⟩, fun a b ga gb ha hab => ?_, fun a out ga he v h0 hv => ?_, fun e ge g he => ?_, h.in'⟩
  · split at he
    · exact h.takes.less a a' ga he
    · obtain rfl := Option.some.inj he
      exact ⟨ga, (orderD n).refl a⟩
  · by_cases hc : C b = true
    · rw [if_pos (hm a b ga gb hle hc)] at he
      rw [if_pos hc]
      exact h.takes.mono a a' b ga gb hle he
    · rw [if_neg hc]
      refine ⟨b, rfl, (orderD n).trans _ _ _ ?_ hle⟩
      split at he
      · exact (h.takes.less a a' ga he).2
      · exact Option.some.inj he ▸ (orderD n).refl a
  · rw [← hl a b ga gb hab]
    split
    · rename_i hc
      rw [if_pos hc] at ha
      exact h.stays a b ga gb ha hab
    · rfl
  · split at he
    · exact h.off a out ga he v h0 hv
    · obtain rfl := Option.some.inj he; rfl
  · have hq := hp e ge g he
    by_cases hc : C e = true
    · rw [if_pos hc, h.point e ge g he]
      exact ⟨fun h _ => h, fun h => h (hq.1 hc)⟩
    · rw [if_neg hc]
      exact ⟨fun _ h => absurd (hq.2 h) hc, fun _ => rfl⟩
def cut2 (a b : Int) (d : Doms) : Option Doms :=
  if a = b then some d else
  if domCut (domAt d a) (-1048576) (lastR (domAt d b)) = [] ∨ domCut (domAt d b) (leastR (domAt d a)) 1048576 = [] then none else
  some ((d.set a.toNat (domCut (domAt d a) (-1048576) (lastR (domAt d b)))).set b.toNat (domCut (domAt d b) (leastR (domAt d a)) 1048576))
theorem id_step {n : Nat} {us : List Int} {P : (Int → Int) → Prop} (hp : ∀ g, P g) (hin : ∀ u ∈ us, 0 ≤ u ∧ u.toNat < n) : StepOK n us P some :=
  ⟨⟨fun a a' ga he => by obtain rfl := Option.some.inj he; exact ⟨ga, (orderD n).refl a⟩, fun a a' b ga gb hle he => by obtain rfl := Option.some.inj he; exact ⟨b, rfl, hle⟩⟩, fun _ _ _ _ _ _ => rfl, fun a out ga he v _ _ => by obtain rfl := Option.some.inj he; rfl, fun _ _ g _ => ⟨fun _ => hp g, fun _ => rfl⟩, hin⟩
theorem supp2 {n : Nat} {a b : Int} (hab : a ≠ b) (ha : 0 ≤ a ∧ a.toNat < n) (hb : 0 ≤ b ∧ b.toNat < n) : SuppS n [a, b] (fun l => decide (l.getD 0 0 ≤ l.getD 1 0)) (cut2 a b) := by
  have two : ∀ g : Int → Int, (decide ((([a, b] : List Int).map g).getD 0 0 ≤ (([a, b] : List Int).map g).getD 1 0) = true) ↔ g a ≤ g b := fun g => by simp
  have ends : ∀ d, GoodD n d → ∀ v : Int, 0 ≤ v ∧ v.toNat < n → DomOk (domAt d v) ∧ leastR (domAt d v) ∈ vals (domAt d v) ∧ lastR (domAt d v) ∈ vals (domAt d v) ∧ ∀ x ∈ vals (domAt d v), -1048576 ≤ x ∧ x ≤ 1048576 ∧ leastR (domAt d v) ≤ x ∧ x ≤ lastR (domAt d v) := fun d gd v hv => by
    obtain ⟨h1, h2⟩ := gd.at_ hv.2
    have h3 := (gd.few.fine _ (domAt_mem (v := v) (by rw [gd.len]; exact hv.2))).val
    exact ⟨h1, least_mem h1 h2, last_mem h1 h2, fun x hx => ⟨(h3 x hx).1, (h3 x hx).2, least_le h1 hx, le_last h1 hx⟩⟩
  have pick : ∀ (P : Int → Prop) (x y : Int), ∃ g : Int → Int, g a = x ∧ g b = y := fun _ x y => ⟨fun u => if u = a then x else y, if_pos rfl, if_neg (Ne.symm hab)⟩
  have hin : ∀ u ∈ [a, b], 0 ≤ u ∧ u.toNat < n := fun u hu => by
    rcases List.mem_cons.1 hu with rfl | hu
    · exact ha
    · rw [List.mem_singleton.1 hu]; exact hb
  refine ⟨fun d out gd he => ?_, fun d gd he g hg => ?_, hin, by simp⟩
  · obtain ⟨oa, la, ma, va⟩ := ends d gd a ha
    obtain ⟨ob, lb, mb, vb⟩ := ends d gd b hb
    have hal : a.toNat < d.length := by rw [gd.len]; exact ha.2
    have hbl : b.toNat < d.length := by rw [gd.len]; exact hb.2
    unfold cut2 at he
    rw [if_neg hab] at he
    split at he
    · cases he
    · rename_i hne
      obtain rfl := Option.some.inj he
      obtain ⟨x1, x2⟩ := domCut_ok oa (-1048576) (lastR (domAt d b))
      obtain ⟨y1, y2⟩ := domCut_ok ob (leastR (domAt d a)) 1048576
      generalize domCut (domAt d a) (-1048576) (lastR (domAt d b)) = x at *
      generalize domCut (domAt d b) (leastR (domAt d a)) 1048576 = y at *
      have hd1 : ∀ v, 0 ≤ v → domAt ((d.set a.toNat x).set b.toNat y) v = if v = b then y else if v = a then x else domAt d v := fun v h0 => by
        rw [dom_set hb.1 (by rw [List.length_set]; exact hbl) h0]
        split
        · rfl
        · rw [dom_set ha.1 hal h0]
      have s1 : Sub (d.set a.toNat x) d := sub_set fun z hz v hv => by
        rw [domAt_some hal] at hz
        exact Option.some.inj hz ▸ ((x2 v).1 hv).1
      have s2 : Sub ((d.set a.toNat x).set b.toNat y) (d.set a.toNat x) := sub_set fun z hz v hv => by
        rw [List.getElem?_set_ne (by omega), domAt_some hbl] at hz
        exact Option.some.inj hz ▸ ((y2 v).1 hv).1
      have fx : Fine x := (gd.few.fine _ (domAt_mem hal)).cut x1 fun v hv => ((x2 v).1 hv).1
      have fy : Fine y := (gd.few.fine _ (domAt_mem hbl)).cut y1 fun v hv => ((y2 v).1 hv).1
      have hno : [] ∉ (d.set a.toNat x).set b.toNat y := fun hm => by
        have h1 : [] ∉ d.set a.toNat x := fun hm => hne (.inl ((set_empty hal gd.some').1 hm))
        exact hne (.inr ((set_empty (by rw [List.length_set]; exact hbl) h1).1 hm))
      refine ⟨(GoodD.of_sub gd (Sub.trans s2 s1) (mem_set (mem_set gd.few.fine fx) fy) hno).1, fun v hv z => ?_, fun v h0 hv => ?_⟩
      · rcases List.mem_cons.1 hv with rfl | hv
        · rw [hd1 v ha.1, if_neg hab, if_pos rfl, x2]
          constructor
          · rintro ⟨h1, _, h2⟩
            obtain ⟨g, g1, g2⟩ := pick (fun _ => True) z (lastR (domAt d b))
            refine ⟨g, fun u hu => ?_, (two g).2 (by omega), g1⟩
            rcases List.mem_cons.1 hu with rfl | hu
            · rw [g1]; exact h1
            · rw [List.mem_singleton.1 hu, g2]; exact mb
          · rintro ⟨g, g1, g2, rfl⟩
            have g2 := (two g).1 g2
            have h1 := g1 v (.head _)
            have h2 := g1 b (.tail _ (.head _))
            exact ⟨h1, (va _ h1).1, by have := vb _ h2; omega⟩
        · obtain rfl := List.mem_singleton.1 hv
          rw [hd1 v hb.1, if_pos rfl, y2]
          constructor
          · rintro ⟨h1, h2, _⟩
            obtain ⟨g, g1, g2⟩ := pick (fun _ => True) (leastR (domAt d a)) z
            refine ⟨g, fun u hu => ?_, (two g).2 (by omega), g2⟩
            rcases List.mem_cons.1 hu with rfl | hu
            · rw [g1]; exact la
            · rw [List.mem_singleton.1 hu, g2]; exact h1
          · rintro ⟨g, g1, g2, rfl⟩
            have g2 := (two g).1 g2
            have h1 := g1 a (.head _)
            have h2 := g1 v (.tail _ (.head _))
            exact ⟨h2, by have := va _ h1; omega, (vb _ h2).2.1⟩
      · have n1 : v ≠ b := fun e => hv (by rw [e]; exact .tail _ (.head _))
        have n2 : v ≠ a := fun e => hv (by rw [e]; exact .head _)
        rw [hd1 v h0, if_neg n1, if_neg n2]
  · refine decide_eq_false fun hle => ?_
    have hle := (two g).1 (decide_eq_true hle)
    have h1 := hg a (.head _)
    have h2 := hg b (.tail _ (.head _))
    obtain ⟨oa, la, ma, va⟩ := ends d gd a ha
    obtain ⟨ob, lb, mb, vb⟩ := ends d gd b hb
    have v1 := va _ h1
    have v2 := vb _ h2
    have e1 := ((domCut_ok oa (-1048576) (lastR (domAt d b))).2 (g a)).2 ⟨h1, by omega, by omega⟩
    have e2 := ((domCut_ok ob (leastR (domAt d a)) 1048576).2 (g b)).2 ⟨h2, by omega, by omega⟩
    unfold cut2 at he
    rw [if_neg hab] at he
    split at he
    · rename_i hh
      rcases hh with hh | hh
      · rw [hh] at e1; cases e1
      · rw [hh] at e2; cases e2
    · cases he
theorem cut2_step {n : Nat} {a b : Int} (ha : 0 ≤ a ∧ a.toNat < n) (hb : 0 ≤ b ∧ b.toNat < n) : StepOK n [a, b] (fun g => g a ≤ g b) (cut2 a b) := by
  by_cases hab : a = b
  · refine StepOK.congr (id_step (fun g => by rw [hab]; exact Int.le_refl _) fun u hu => ?_) fun d _ => by unfold cut2; rw [if_pos hab]
    rcases List.mem_cons.1 hu with rfl | hu
    · exact ha
    · rw [List.mem_singleton.1 hu]; exact hb
  · exact (supp2 hab ha hb).step.iff fun g => by simp
def aheadB (c : Con) (k : Nat) (d : Doms) : Bool := (List.range k).all (pairO d c)
def cutO (c : Con) (k : Nat) (d : Doms) : Option Doms := if aheadB c k d = true then cut2 (varAt c k) (varAt c (halfOf c + k)) d else some d
structure LexC (n : Nat) (c : Con) : Prop where
  vin : ∀ v ∈ c.vars, 0 ≤ v ∧ v.toNat < n
theorem pair_iff {n : Nat} {c : Con} (h : LexC n c) {d : Doms} (gd : GoodD n d) {j : Nat} (hj : j < halfOf c) : pairO d c j = true ↔ varAt c j = varAt c (halfOf c + j) ∨ ∃ x, vals (domAt d (varAt c j)) = [x] ∧ vals (domAt d (varAt c (halfOf c + j))) = [x] := by
  have hh := half_le c
  have o1 := gd.at_ (h.vin _ (varAt_mem (c := c) (k := j) (by omega))).2
  have o2 := gd.at_ (h.vin _ (varAt_mem (c := c) (k := halfOf c + j) (by omega))).2
  unfold pairO
  rw [knownB_iff o1.1 o2.1]
  refine or_congr_right ⟨?_, ?_⟩
  · rintro ⟨h1, h2⟩
    obtain ⟨x, hx⟩ := List.length_eq_one_iff.1 h1
    exact ⟨x, hx, by rw [← h2, hx]⟩
  · rintro ⟨x, h1, h2⟩
    exact ⟨by rw [h1]; rfl, dom_ext o1.1 o2.1 (by rw [h1, h2])⟩
theorem cutO_step {n : Nat} {c : Con} (h : LexC n c) {k : Nat} (hk : k < halfOf c) : StepOK n c.vars (fun g => (∀ j, j < k → g (varAt c j) = g (varAt c (halfOf c + j))) → g (varAt c k) ≤ g (varAt c (halfOf c + k))) (cutO c k) := by
  have hh := half_le c
  have m1 : ∀ j, j < halfOf c → varAt c j ∈ c.vars ∧ varAt c (halfOf c + j) ∈ c.vars := fun j hj => ⟨varAt_mem (by omega), varAt_mem (by omega)⟩
  obtain ⟨ha, hb⟩ := m1 k hk
  refine StepOK.guard (C := aheadB c k) ((cut2_step (h.vin _ ha) (h.vin _ hb)).wide (fun u hu => ?_) h.vin) (fun a b ga gb hle hc => ?_) (fun a b ga gb hab => ?_) (fun e ge g he => ?_)
  · rcases List.mem_cons.1 hu with rfl | hu
    · exact ha
    · rw [List.mem_singleton.1 hu]; exact hb
  · refine List.all_eq_true.2 fun j hj => ?_
    have hj' := List.mem_range.1 hj
    have hjh : j < halfOf c := by omega
    obtain ⟨v1, v2⟩ := m1 j hjh
    have := (pair_iff h gb hjh).1 (List.all_eq_true.1 hc j hj)
    refine (pair_iff h ga hjh).2 (this.imp id ?_)
    rintro ⟨x, h1, h2⟩
    have key : ∀ v ∈ c.vars, vals (domAt b v) = [x] → vals (domAt a v) = [x] := fun v hv e => by
      have hn := h.vin v hv
      obtain ⟨y, hy⟩ := ga.ne hn.2
      have hsub : ∀ z ∈ vals (domAt a v), z = x := fun z hz => by
        have := hle.2 v z hn.1 hz
        rw [e] at this
        exact List.mem_singleton.1 this
      exact up_ext (vals_up (ga.at_ hn.2).1) (List.pairwise_singleton _ _) fun z => ⟨fun hz => List.mem_singleton.2 (hsub z hz), fun hz => by rw [List.mem_singleton.1 hz, ← hsub y hy]; exact hy⟩
    exact ⟨x, key _ v1 h1, key _ v2 h2⟩
  · unfold aheadB
    rw [Bool.eq_iff_iff, List.all_eq_true, List.all_eq_true]
    refine forall_congr' fun j => imp_congr_right fun hj => ?_
    have hj' := List.mem_range.1 hj
    obtain ⟨v1, v2⟩ := m1 j (by omega)
    unfold pairO
    rw [hab _ v1, hab _ v2]
  · unfold aheadB
    rw [List.all_eq_true]
    refine forall_congr' fun j => ?_
    rw [List.mem_range]
    refine imp_congr_right fun hj => ?_
    obtain ⟨v1, v2⟩ := m1 j (by omega)
    rw [pair_iff h ge (by omega), he _ v1, he _ v2]
    constructor
    · rintro (e | ⟨x, h1, h2⟩)
      · rw [e]
      · rw [(List.cons.inj h1).1, (List.cons.inj h2).1]
    · exact fun e => .inr ⟨_, rfl, by rw [e]⟩
theorem lex_ends {n : Nat} {c : Con} (h : LexC n c) (d0 : Doms) : ∀ (N : Nat) (d : Doms) (R : Option Doms), Come leD (GoodD n) (cutO c) (List.range (halfOf c)) d0 d → iter (stepO c) N d = some R → Ends leD (GoodD n) (cutO c) (List.range (halfOf c)) d0 R := by
  intro N
  induction N using Nat.strongRecOn with
  | _ N ih =>
    intro d R hd hR
    have hh := half_le c
    have known : ∀ k, k < halfOf c → pairO d c k = true → cut2 (varAt c k) (varAt c (halfOf c + k)) d = some d := fun k hk hp => by
      have v1 := h.vin _ (varAt_mem (c := c) (k := k) (by omega))
      have v2 := h.vin _ (varAt_mem (c := c) (k := halfOf c + k) (by omega))
      rcases (pair_iff h hd.fine hk).1 hp with e | ⟨x, h1, h2⟩
      · unfold cut2; rw [if_pos e]
      · refine ((cut2_step v1 v2).point d hd.fine (fun _ => x) fun u hu => ?_).2 (Int.le_refl _)
        rcases List.mem_cons.1 hu with rfl | hu
        · exact h1
        · rw [List.mem_singleton.1 hu]; exact h2
    have stay : ∀ k, k < halfOf c → pairO d c k = true → cutO c k d = some d := fun k hk hp => by
      unfold cutO
      rw [known k hk hp, ite_self]
    by_cases hk : placeO d c = halfOf c
    · have hst : stepO c d = .inl (some d) := by unfold stepO; rw [if_pos hk]
      obtain rfl := iter_inl hR hst
      refine ⟨hd, fun k hk2 => ?_⟩
      have hk2 := List.mem_range.1 hk2
      exact stay k hk2 (placeF_before (p := pairO d c) (h := halfOf c) (j := k) (by unfold placeO at hk; omega))
    · have hkl : placeO d c < halfOf c := by have := placeF_le (pairO d c) (halfOf c); unfold placeO at hk ⊢; omega
      have hn : pairO d c (placeO d c) = false := placeF_here hkl
      have hbf : ∀ j, j < placeO d c → pairO d c j = true := fun j hj => placeF_before hj
      have hst : stepO c d = (if domCut (domAt d (varAt c (placeO d c))) (-1048576) (lastR (domAt d (varAt c (halfOf c + placeO d c)))) = [] ∨ domCut (domAt d (varAt c (halfOf c + placeO d c))) (leastR (domAt d (varAt c (placeO d c)))) 1048576 = [] then .inl none else
        if domCut (domAt d (varAt c (placeO d c))) (-1048576) (lastR (domAt d (varAt c (halfOf c + placeO d c)))) = domAt d (varAt c (placeO d c)) ∧ domCut (domAt d (varAt c (halfOf c + placeO d c))) (leastR (domAt d (varAt c (placeO d c)))) 1048576 = domAt d (varAt c (halfOf c + placeO d c)) then .inl (some d) else
        .inr ((d.set (varAt c (placeO d c)).toNat (domCut (domAt d (varAt c (placeO d c))) (-1048576) (lastR (domAt d (varAt c (halfOf c + placeO d c)))))).set (varAt c (halfOf c + placeO d c)).toNat (domCut (domAt d (varAt c (halfOf c + placeO d c))) (leastR (domAt d (varAt c (placeO d c)))) 1048576))) := by
        unfold stepO
        rw [if_neg hk]
      generalize placeO d c = k at *
      have v1 := h.vin _ (varAt_mem (c := c) (k := k) (by omega))
      have v2 := h.vin _ (varAt_mem (c := c) (k := halfOf c + k) (by omega))
      have hab : varAt c k ≠ varAt c (halfOf c + k) := fun e => by
        rw [(pair_iff h hd.fine hkl).2 (.inl e)] at hn; cases hn
      have hah : aheadB c k d = true := List.all_eq_true.2 fun j hj => hbf j (List.mem_range.1 hj)
      have hcut : cutO c k d = cut2 (varAt c k) (varAt c (halfOf c + k)) d := if_pos hah
      have htk := (cutO_step h hkl).takes
      unfold cut2 at hcut
      rw [if_neg hab] at hcut
      by_cases e1 : domCut (domAt d (varAt c k)) (-1048576) (lastR (domAt d (varAt c (halfOf c + k)))) = [] ∨ domCut (domAt d (varAt c (halfOf c + k))) (leastR (domAt d (varAt c k))) 1048576 = []
      · rw [if_pos e1] at hst hcut
        obtain rfl := iter_inl hR hst
        exact hd.none (c := k) (List.mem_range.2 hkl) htk hcut
      · rw [if_neg e1] at hst hcut
        by_cases e2 : domCut (domAt d (varAt c k)) (-1048576) (lastR (domAt d (varAt c (halfOf c + k)))) = domAt d (varAt c k) ∧ domCut (domAt d (varAt c (halfOf c + k))) (leastR (domAt d (varAt c k))) 1048576 = domAt d (varAt c (halfOf c + k))
        · rw [if_pos e2] at hst
          obtain rfl := iter_inl hR hst
          refine ⟨hd, fun j hj => ?_⟩
          have hj := List.mem_range.1 hj
          by_cases hjk : j < k
          · exact stay j hj (hbf j hjk)
          · by_cases e : j = k
            · subst e
              rw [hcut, e2.1, e2.2, setD_same (by rw [hd.fine.len]; exact v1.2), setD_same (by rw [hd.fine.len]; exact v2.2)]
            · have : aheadB c j d = false := by
                rw [← Bool.not_eq_true]
                intro ht
                have := List.all_eq_true.1 ht k (List.mem_range.2 (by omega))
                rw [hn] at this; cases this
              unfold cutO
              rw [this]; rfl
        · rw [if_neg e2] at hst
          obtain ⟨m, hm, hR2⟩ := iter_inr hR hst
          exact ih m hm _ R (hd.step (orderD n) (c := k) (List.mem_range.2 hkl) htk hcut) hR2
open Classical in
noncomputable def lexO (c : Con) (d : Doms) : Option Doms := if h : ∃ R : Option Doms, ∃ N, iter (stepO c) N d = some R then h.choose else none
theorem lexO_ans {c : Con} {d : Doms} {R : Option Doms} {N : Nat} (h : iter (stepO c) N d = some R) : R = lexO c d := by
  have hex : ∃ R : Option Doms, ∃ N, iter (stepO c) N d = some R := ⟨R, N, h⟩
  obtain ⟨M, hM⟩ := hex.choose_spec
  unfold lexO
  rw [dif_pos hex]
  exact iter_det h hM
theorem order_le : ∀ (xs ys : List Int), xs.length = ys.length → (orderR xs ys ≤ 0 ↔ ∀ k, k < xs.length → (∀ j, j < k → xs.getD j 0 = ys.getD j 0) → xs.getD k 0 ≤ ys.getD k 0)
  | [], [], _ => by simp [orderR]
  | [], _ :: _, h => by simp at h
  | _ :: _, [], h => by simp at h
  | x :: xs, y :: ys, h => by
    rw [orderR]
    have ih := order_le xs ys (by simpa using h)
    by_cases h1 : x < y
    · rw [if_pos h1]
      refine ⟨fun _ k hk he => ?_, fun _ => by omega⟩
      cases k with
      | zero => simp; omega
      | succ k => have := he 0 (by omega); simp at this; omega
    · rw [if_neg h1]
      by_cases h2 : y < x
      · rw [if_pos (by omega)]
        refine ⟨fun h => by omega, fun hh => ?_⟩
        have := hh 0 (by simp) (fun j hj => by omega)
        simp at this; omega
      · rw [if_neg (by omega)]
        have e : x = y := by omega
        subst e
        rw [ih]
        constructor
        · intro hh k hk he
          cases k with
          | zero => simp
          | succ k =>
            have := hh k (by simpa using hk) fun j hj => by simpa using he (j + 1) (by omega)
            simpa using this
        · intro hh k hk he
          have := hh (k + 1) (by simpa using hk) fun j hj => by
            cases j with
            | zero => simp
            | succ j => simpa using he j (by omega)
          simpa using this
theorem lex_step {n : Nat} {c : Con} (h : LexC n c) (hl : c.vars.length * 8 ≤ 140737488355328) (heven : c.vars.length % 2 = 0) : StepOK n c.vars (fun g => orderR ((c.vars.map g).take (c.vars.length / 2)) ((c.vars.map g).drop (c.vars.length / 2)) ≤ 0) (lexO c) := by
  have hE : ∀ d, GoodD n d → Ends leD (GoodD n) (cutO c) (List.range (halfOf c)) d (lexO c d) := fun d gd => by
    obtain ⟨R, N, h1, _⟩ := pruneO_ex (c := c) (d := d) ⟨hl, fun v hv => by rw [gd.len]; exact h.vin v hv⟩ gd.few.fine
    rw [if_neg gd.some'] at h1
    rw [← lexO_ans h1]
    exact lex_ends h d N d R (Come.refl (orderD n) gd) h1
  refine (Ends.step hE (fun k hk => cutO_step h (List.mem_range.1 hk)) h.vin).iff fun g => ?_
  have hh : c.vars.length = halfOf c + halfOf c := by unfold halfOf; omega
  have e : c.vars.length / 2 = halfOf c := rfl
  have x1 : ((c.vars.map g).take (halfOf c)).length = halfOf c := by simp; omega
  have y1 : ((c.vars.map g).drop (halfOf c)).length = halfOf c := by simp; omega
  have x2 : ∀ k, k < halfOf c → ((c.vars.map g).take (halfOf c)).getD k 0 = g (varAt c k) := fun k hk => by
    unfold varAt
    rw [List.getD_eq_getElem?_getD, List.getD_eq_getElem?_getD, List.getElem?_take, if_pos hk, List.getElem?_map, List.getElem?_eq_getElem (by omega)]; rfl
  have y2 : ∀ k, k < halfOf c → ((c.vars.map g).drop (halfOf c)).getD k 0 = g (varAt c (halfOf c + k)) := fun k hk => by
    unfold varAt
    rw [List.getD_eq_getElem?_getD, List.getD_eq_getElem?_getD, List.getElem?_drop, List.getElem?_map, List.getElem?_eq_getElem (by omega)]; rfl
  rw [e, order_le _ _ (by rw [x1, y1]), x1]
  constructor
  · intro hp k hk he
    rw [x2 k hk, y2 k hk]
    exact hp k (List.mem_range.2 hk) fun j hj => by
      have := he j hj
      rwa [x2 j (by omega), y2 j (by omega)] at this
  · intro hp k hk he
    have hk := List.mem_range.1 hk
    have := hp k hk fun j hj => by rw [x2 j (by omega), y2 j (by omega)]; exact he j hj
    rwa [x2 k hk, y2 k hk] at this
end Go.Proofs.YtlcobmehnaeebaaGreat
namespace Go.Proofs.YtlcobmehnaeebaaGreat
open Go Go.RowKit
set_option linter.unusedVariables false
set_option linter.unusedSimpArgs false
set_option maxRecDepth 8000

theorem FewD.smallD {d : Doms} (h : FewD d) : SmallD d := ⟨h.small, fun x hx => by have := (h.fine x hx).len; omega⟩
theorem VarsU.few {d : Doms} (h : FewD d) {vars : List Int} (hv : VarsU d vars) : vars.length * 24 ≤ 140737488355328 := by
  have : vars.length ≤ d.length := by
    have h1 : (vars.map Int.toNat).Nodup := nodup_map hv.1 fun x hx y hy e => by
      have := (hv.2 x hx).1; have := (hv.2 y hy).1; omega
    have h2 := nodup_sub h1 (b := List.range d.length) fun k hk => by
      obtain ⟨v, hv2, rfl⟩ := List.mem_map.1 hk
      exact List.mem_range.2 (hv.2 v hv2).2
    simpa using h2
  have := h.small
  omega
theorem uprune_few (d : Doms) (vars : List Int) (h : FewD d) (hv : VarsU d vars) (hne : vars ≠ []) : Spec Tryz.prog 29 false [doms d, .agg (cC (conU vars))] (pruneRes (prune8 d vars)) := by
  have := uprune_spec d (conU vars) h.smallD h.valD.inb h.valD.len hv.2 (hv.few h)
  rw [show (conU vars).vars = vars from rfl, prune_eq h hv hne] at this
  exact this
theorem prune8_few (d : Doms) (vars : List Int) (h : FewD d) (hv : VarsU d vars) : Spec Tryz.prog 37 false [doms d, .agg (cC (conU vars))] [.val (doms ((prune8 d vars).getD [])), .val (.bool (prune8 d vars).isSome)] :=
  prune8_spec d (conU vars) h.valD hv.2 (by have := hv.few h; show vars.length * 8 ≤ _; omega)
theorem fine1 {a b : Int} (h : a ≤ b) (h1 : -1048576 ≤ a) (h2 : b ≤ 1048576) : Fine [(a, b)] := by
  have hv : vals [(a, b)] = rng a b := by
    show rng a b ++ [] = _
    rw [List.append_nil]
  refine ⟨⟨fun r hr => ?_, by simp⟩, ?_, ?_⟩
  · obtain rfl := List.mem_singleton.1 hr; exact h
  · rw [hv]; intro v hm
    have := mem_rng.1 hm
    omega
  · rw [hv]; simp [rng]; omega
end Go.Proofs.YtlcobmehnaeebaaGreat
namespace Go.Proofs.YtlcobmehnaeebaaGreat
open Go Go.RowKit
set_option linter.unusedVariables false
set_option linter.unusedSimpArgs false

def tabG (n : Nat) (g : Int → Int) : List Int := (List.range n).map fun j : Nat => g (j : Int)
theorem tab_at {n : Nat} {g : Int → Int} {v : Int} (h : 0 ≤ v ∧ v.toNat < n) : atR (tabG n g) v = g v := by
  unfold atR tabG
  rw [if_neg (by omega), List.getD_eq_getElem?_getD, List.getElem?_map, List.getElem?_range h.2]
  show g ((v.toNat : Nat) : Int) = g v
  congr 1; omega
theorem picked_congr {vars a b : List Int} (h : ∀ u ∈ vars, atR a u = atR b u) : pickedR vars a = pickedR vars b := List.map_congr_left h
theorem sumW_congr {vars coefs a b : List Int} (h : ∀ u ∈ vars, atR a u = atR b u) : sumW vars coefs a = sumW vars coefs b := by
  unfold sumW
  have : ∀ (l : List (Int × Int)) (n : Int), (∀ p ∈ l, atR a p.1 = atR b p.1) → l.foldl (fun n p => IntKind.i64.wrap (n + IntKind.i64.wrap (p.2 * atR a p.1))) n = l.foldl (fun n p => IntKind.i64.wrap (n + IntKind.i64.wrap (p.2 * atR b p.1))) n := by
    intro l
    induction l with
    | nil => intro n _; rfl
    | cons p l ih =>
      intro n hp
      rw [List.foldl_cons, List.foldl_cons, hp p (.head _)]
      exact ih _ fun q hq => hp q (.tail _ hq)
  exact this _ _ fun p hp => h _ (List.of_mem_zip hp).1
theorem uses_mem {c : Con} {u : Int} : u ∈ usesR c ↔ u ∈ c.vars ∨ c.kind = 4 ∧ u = c.b := by
  unfold usesR
  rw [sortU_mem]
  split
  · rename_i h; simp [h]
  · rename_i h; simp [h]
theorem holds_congr {c : Con} {a b : List Int} (h : ∀ u ∈ usesR c, atR a u = atR b u) : holdsR c a = holdsR c b := by
  have hv : ∀ u ∈ c.vars, atR a u = atR b u := fun u hu => h u (uses_mem.2 (.inl hu))
  have e1 := picked_congr hv
  have e2 : soR c a = soR c b := by unfold soR; rw [sumW_congr hv]
  unfold holdsR holds6
  rw [e1, e2]
  by_cases hk : c.kind = 4
  · rw [h c.b (uses_mem.2 (.inr ⟨hk, rfl⟩))]
  · simp only [if_neg hk]
theorem sumW_G {vars coefs a : List Int} {g : Int → Int} (hl : vars.length = coefs.length) (hck : ∀ k ∈ coefs, CoefOk k) (hw : weightK coefs ≤ 4611686018427388928) (ha : ∀ u ∈ vars, atR a u = g u) (hb : ∀ u ∈ vars, -1048576 ≤ g u ∧ g u ≤ 1048576) : sumW vars coefs a = sumG vars coefs g := by
  have key : ∀ (l : List (Int × Int)) (n : Int), (∀ p ∈ l, atR a p.1 = g p.1 ∧ (-1048576 ≤ g p.1 ∧ g p.1 ≤ 1048576) ∧ CoefOk p.2) → -4611686018427388928 ≤ n - weightK (l.map (·.2)) → n + weightK (l.map (·.2)) ≤ 4611686018427388928 →
      l.foldl (fun n p => IntKind.i64.wrap (n + IntKind.i64.wrap (p.2 * atR a p.1))) n = n + (l.map fun p => p.2 * g p.1).sum := by
    intro l
    induction l with
    | nil => intro n _ _ _; simp
    | cons p l ih =>
      intro n hp h1 h2
      obtain ⟨e, b, hk⟩ := hp p (.head _)
      have m := mul_in p.2 (g p.1) b.1 b.2
      have hk2 := hk.2
      have hpos := weightK_pos (l.map (·.2))
      have ew : weightK ((p :: l).map (·.2)) = absK p.2 * 1048576 + weightK (l.map (·.2)) := by simp [weightK]
      rw [ew] at h1 h2
      have hab := absK_pos p.2
      rw [List.foldl_cons, e, wrap_id (n := p.2 * g p.1) (by omega) (by omega), wrap_id (by omega) (by omega), ih _ (fun q hq => hp q (.tail _ hq)) (by omega) (by omega)]
      simp only [List.map_cons, List.sum_cons]
      omega
  have e : (vars.zip coefs).map (·.2) = coefs := List.map_snd_zip (by omega)
  have hp := weightK_pos coefs
  unfold sumW sumG
  rw [key _ 0 (fun p hp => ⟨ha _ (List.of_mem_zip hp).1, hb _ (List.of_mem_zip hp).1, hck _ (List.of_mem_zip hp).2⟩) (by rw [e]; omega) (by rw [e]; omega), Int.zero_add]
theorem StepOK.iff' {n : Nat} {us : List Int} {P Q : (Int → Int) → Prop} {f : Doms → Option Doms} (h : StepOK n us P f) (hq : ∀ g : Int → Int, (∀ u ∈ us, -1048576 ≤ g u ∧ g u ≤ 1048576) → (P g ↔ Q g)) : StepOK n us Q f := by
  refine ⟨h.takes, h.stays, h.off, fun e ge g he => (h.point e ge g he).trans (hq g fun u hu => ?_), h.in'⟩
  have hm : domAt e u ∈ e := domAt_mem (by rw [ge.len]; exact (h.in' u hu).2)
  exact (ge.few.fine _ hm).val _ (by rw [he u hu]; exact .head _)
theorem nodup_full : ∀ (l s : List Int), s.Nodup → (∀ x ∈ s, x ∈ l) → l.length ≤ s.length → l.Nodup
  | [], _, _, _, _ => .nil
  | x :: l, s, hs, hm, hl => by
    have hx : x ∉ l := fun hx => by
      have := hs.length_le_of_subset (l₂ := l) fun y hy => by
        rcases List.mem_cons.1 (hm y hy) with rfl | h
        · exact hx
        · exact h
      simp at hl; omega
    have h2 : ∀ y ∈ s.erase x, y ∈ l := fun y hy => by
      have := (hs.mem_erase_iff).1 hy
      exact (List.mem_cons.1 (hm y this.2)).resolve_left this.1
    have h3 := List.length_erase_le (l := s) (a := x)
    have h4 : s.length - 1 ≤ (s.erase x).length := by
      rw [List.length_erase]; split <;> omega
    exact List.nodup_cons.2 ⟨hx, nodup_full l (s.erase x) (hs.erase x) h2 (by simp at hl; omega)⟩
theorem sort_same {l : List Int} : (sortU l).length = l.length ↔ l.Nodup := by
  constructor
  · intro h
    exact nodup_full l (sortU l) (up_nodup (sortU_up l)) (fun x hx => (sortU_mem x l).1 hx) (by omega)
  · intro h
    have h1 := (up_nodup (sortU_up l)).length_le_of_subset (l₂ := l) fun x hx => (sortU_mem x l).1 hx
    have h2 := h.length_le_of_subset (l₂ := sortU l) fun x hx => (sortU_mem x l).2 hx
    omega
noncomputable def oneO (c : Con) (d : Doms) : Option Doms :=
  if c.kind = 0 then linO c d else
  if c.kind = 1 then prune8 d c.vars else
  if c.kind = 4 then reifO c d else
  if c.kind = 6 then lexO c d else
  keptR d (usesR c) fun t => holdsR c (fillW d.length (usesR c) t (usesR c).length)
theorem sum_c {n : Nat} {d : Doms} {c : Con} (gd : GoodD n d) (h : SumOk d c) : LinC n c := by
  have hv : VarsU d c.vars := ⟨h.nod, h.fine.vin⟩
  exact ⟨⟨h.fine.len, fun v hv => by have := h.fine.vin v hv; rwa [gd.len] at this, h.fine.ck, h.nod, h.big, hv.few gd.few⟩, h.pos, h.op⟩
theorem right_split {d : Doms} {c : Con} (hc : ConB c) (h : conR d c = 0) : (0 ≤ c.kind ∧ c.kind ≤ 6) ∧ VarsIn d c ∧ rightR d c = true ∧ ∀ u ∈ usesR c, 0 ≤ u ∧ u.toNat < d.length := by
  obtain ⟨h1, h2⟩ := con_in hc h
  unfold conR at h
  split at h
  · cases h
  · split at h
    · cases h
    · rename_i h3 h4
      refine ⟨by omega, h1, h2, fun u hu => ?_⟩
      have h4 : (usesR c).all (inD d) = true := by simpa using h4
      exact inD_iff.1 (List.all_eq_true.1 h4 u hu)
theorem kept_step {n : Nat} {c : Con} (hin : ∀ u ∈ usesR c, 0 ≤ u ∧ u.toNat < n) (hne : usesR c ≠ []) : StepOK n (usesR c) (fun g => holdsR c (tabG n g) = true) fun d => keptR d (usesR c) fun t => holdsR c (fillW d.length (usesR c) t (usesR c).length) := by
  have hnd : (usesR c).Nodup := up_nodup (sortU_up _)
  refine ((suppK (P := fun t => holdsR c (fillW n (usesR c) t (usesR c).length)) hnd hin hne).step.congr fun d gd => by rw [gd.len]).iff fun g => ?_
  rw [holds_congr (b := tabG n g) fun u hu => ?_]
  rw [tab_at (hin u hu)]
  exact fillW_at g hin hu
theorem one_step {n : Nat} {d : Doms} {c : Con} (gd : GoodD n d) (hc : ConB c) (h : conR d c = 0) : StepOK n (usesR c) (fun g => (c.kind = 4 → 0 ≤ g c.b ∧ g c.b ≤ 1) → holdsR c (tabG n g) = true) (oneO c) := by
  obtain ⟨hk, hv, hr, hin⟩ := right_split hc h
  rw [gd.len] at hin
  have hpick : ∀ g : Int → Int, pickedR c.vars (tabG n g) = c.vars.map g := fun g => List.map_congr_left fun u hu => tab_at (hin u (uses_mem.2 (.inl hu)))
  have hvu : ∀ u ∈ c.vars, u ∈ usesR c := fun u hu => uses_mem.2 (.inl hu)
  have hdl := gd.few.small
  by_cases h0 : c.kind = 0
  · have hs := sum_c gd (sum_in hc h h0 gd.few.fine hdl)
    refine (((lin_step hs).wide hvu hin).congr fun d gd => by unfold oneO; rw [if_pos h0]).iff' fun g hg => ?_
    have hb := hs.sum.big
    have := absK_pos c.rhs
    unfold holdsR soR
    rw [if_pos h0, sumW_G hs.sum.vl hs.sum.ck (by omega) (fun u hu => tab_at (hin u (hvu u hu))) fun u hu => hg u (hvu u hu)]
    exact ⟨fun h _ => h, fun h => h fun e => by omega⟩
  · by_cases h1 : c.kind = 1
    · have hm : 0 < c.vars.length ∧ c.vars.Nodup := by
        unfold rightR at hr
        rw [if_neg h0, if_pos h1] at hr
        simp only [manyR, Bool.and_eq_true, decide_eq_true_eq] at hr
        exact hr.2
      refine (((supp8 (n := n) ⟨hm.2, fun v hv => hin v (hvu v hv)⟩ (List.ne_nil_of_length_pos hm.1)).step.wide hvu hin).congr fun d gd => by unfold oneO; rw [if_neg h0, if_pos h1]).iff fun g => ?_
      unfold holdsR
      rw [if_neg h0, if_pos h1, hpick, decide_eq_true_eq, decide_eq_true_eq, sort_same]
      exact ⟨fun h _ => h, fun h => h fun e => by omega⟩
    · by_cases h4 : c.kind = 4
      · have hrf := reif_in hc h h4 gd.few.fine hdl
        have hrc : ReifC n c := by
          refine ⟨sum_c gd hrf.sum, sum_c gd hrf.sumN, by have := hrf.b; rwa [gd.len] at this, hrf.apart, ?_⟩
          obtain ⟨_, hbg⟩ := big_no (con_big h)
          have := weightK_pos c.coefs
          omega
        have hu4 : ∀ u ∈ c.vars ++ [c.b], u ∈ usesR c := fun u hu => by
          rcases List.mem_append.1 hu with hu | hu
          · exact hvu u hu
          · exact uses_mem.2 (.inr ⟨h4, List.mem_singleton.1 hu⟩)
        refine (((reif_step hrc).wide hu4 hin).congr fun d gd => by unfold oneO; rw [if_neg h0, if_neg h1, if_pos h4]).iff' fun g hg => ?_
        have hs := hrc.yes.sum
        have hb : weightK c.coefs + absK c.rhs ≤ 4611686018427388928 := hs.big
        have := absK_pos c.rhs
        have e1 : sumW c.vars c.coefs (tabG n g) = sumG c.vars c.coefs g := sumW_G hs.vl hs.ck (by omega) (fun u hu => tab_at (hin u (hvu u hu))) fun u hu => hg u (hvu u hu)
        have e2 : atR (tabG n g) c.b = g c.b := tab_at hrc.b
        unfold holdsR soR
        rw [if_neg h0, if_neg h1, if_neg (by omega), if_neg (by omega), if_pos h4, e1, e2]
        simp only [Bool.or_eq_true, Bool.and_eq_true, decide_eq_true_eq, Bool.not_eq_true']
        exact ⟨fun h hh => h (hh h4), fun h hh => h fun _ => hh⟩
      · by_cases h6 : c.kind = 6
        · have hev : c.vars.length % 2 = 0 := by
            unfold rightR at hr
            rw [if_neg h0, if_neg h1, if_neg (by omega), if_neg (by omega), if_neg h4, if_neg (by omega)] at hr
            simp only [Bool.and_eq_true, decide_eq_true_eq] at hr
            exact hr.2
          refine (((lex_step (n := n) ⟨fun v hv => hin v (hvu v hv)⟩ hv.1 hev).wide hvu hin).congr fun d gd => by unfold oneO; rw [if_neg h0, if_neg h1, if_neg h4, if_pos h6]).iff fun g => ?_
          unfold holdsR holds6
          rw [if_neg h0, if_neg h1, if_neg (by omega), if_neg (by omega), if_neg h4, if_neg (by omega), hpick, decide_eq_true_eq]
          exact ⟨fun h _ => h, fun h => h fun e => by omega⟩
        · have hne : usesR c ≠ [] := by
            have hpos : 0 < c.vars.length := by
              unfold rightR at hr
              rw [if_neg h0, if_neg h1] at hr
              by_cases h2 : c.kind = 2
              · rw [if_pos h2] at hr
                simp only [manyR, Bool.and_eq_true, decide_eq_true_eq] at hr
                exact hr.1.2.1
              · rw [if_neg h2] at hr
                by_cases h3 : c.kind = 3
                · rw [if_pos h3] at hr
                  simp only [manyR, Bool.and_eq_true, decide_eq_true_eq] at hr
                  omega
                · rw [if_neg h3, if_neg h4, if_pos (by omega)] at hr
                  simp only [sumR, Bool.and_eq_true, decide_eq_true_eq] at hr
                  exact hr.1.2.1.1.2
            intro e
            have := hvu _ (List.getElem_mem hpos)
            rw [e] at this; cases this
          refine ((kept_step hin hne).congr fun d gd => by unfold oneO; rw [if_neg h0, if_neg h1, if_neg h4, if_neg h6]).iff fun g => ?_
          exact ⟨fun h _ => h, fun h => h fun e => absurd e h4⟩
end Go.Proofs.YtlcobmehnaeebaaGreat
namespace Go.Proofs.YtlcobmehnaeebaaGreat
open Go Go.RowKit
set_option linter.unusedVariables false
set_option linter.unusedSimpArgs false
set_option maxRecDepth 8000

abbrev Uses := List (Int × List Int)
def mpU (u : Uses) : Own := .mp true none (u.map fun p => (Value.int .i64 p.1, ints p.2))
def nextP (n : Nat) (o : Seen) : Option Nat := (List.range n).find? fun i => (lkA o (i : Int)).getD false
def boxQ (rows : List (List PV)) (ua uu : Value) : Own := .box true [.sl rows, .raw ua, .raw uu]
theorem next_spec (rows : List (List PV)) (o : Seen) (uq ua uu : Value) (hl : rows.length ≤ 4611686018427387904) :
    SpecO Tryz.prog 46 false [uq, ua] [boxQ rows ua uu, mpS o] [.raw uq] [boxQ rows ua uu, mpS (match nextP rows.length o with
      | some i => dlA o (i : Int)
      | none => o)] (fun _ => []) (fun _ => [.int .i64 ((nextP rows.length o).getD 0 : Nat), .bool (nextP rows.length o).isSome]) := by
  refine SpecO.body [1001, 1002] [] Tryz.func46 rfl rfl rfl rfl fun w0 Z1 => ?_
  refine T.sub (Rel.derawp (s := 0) (g := 1001) rfl rfl rfl) ?_
  repeat' ((first | refine T.G rfl ?_ | refine J.G rfl ?_ | refine J.H rfl ?_ | refine T.rd rfl (by decide +kernel) ?_ | fail); conv => whnf)
  refine T.canon (keep := [0, 9, 10, 1001, 1002]) (os := [0, 1002]) rfl (T.ind (fun i : Nat => ⟨[(0, .optr 0 0 0 0), (9, .val true (.int .i64 rows.length)), (10, .val true (.int .i64 i)), (1001, .eq uq 0), (1002, .eq ua 1)], [(0, some (boxQ rows ua uu)), (1, some (mpS o))], 2⟩)
    (fun i => i ≤ rows.length ∧ ∀ j, j < i → (lkA o (j : Int)).getD false = false) (fun i => rows.length - i) 0 ⟨by simp, fun j hj => by omega⟩ (fun _ _ h => h) ?_)
  rintro i ⟨hi, hb⟩ ih
  repeat' ((first | refine T.G rfl ?_ | refine J.G rfl ?_ | refine J.H rfl ?_ | refine T.rd rfl (by decide +kernel) ?_ | fail); conv => whnf)
  refine T.cd rfl (fun h1 => ?_) (fun h1 => ?_)
  · have h1 : i < rows.length := by simpa using h1
    repeat' ((first | refine T.G rfl ?_ | refine J.G rfl ?_ | refine J.H rfl ?_ | refine T.rd rfl (by decide +kernel) ?_ | fail); conv => whnf)
    refine J.sub (Rel.deraw (s := 16) (g := 1002) rfl rfl) ?_
    repeat' ((first | refine T.G rfl ?_ | refine J.G rfl ?_ | refine J.H rfl ?_ | refine T.rd rfl (by decide +kernel) ?_ | fail); conv => whnf)
    refine J.ml (i : Int) (.bool false) rfl rfl rfl rfl rfl rfl rfl rfl rfl zeroB (fun _ _ => .bool _) (keyI Tryz.underlying3) (fun _ _ _ h => rep_int h) ?_
    have hmb : ((lkA o (i : Int)).map PV.bool).getD (.bool false) = .bool ((lkA o (i : Int)).getD false) := by cases lkA o (i : Int) <;> rfl
    rw [hmb]
    by_cases hs : (lkA o (i : Int)).getD false = true
    · have hn : nextP rows.length o = some i := by
        unfold nextP
        rw [List.find?_range_eq_some]
        exact ⟨hs, by simpa using h1, fun j hj => by simpa using hb j hj⟩
      rw [hn, hs]
      repeat' ((first | refine T.G rfl ?_ | refine J.G rfl ?_ | refine J.H rfl ?_ | refine T.rd rfl (by decide +kernel) ?_ | fail); conv => whnf)
      refine T.ct rfl ?_
      repeat' ((first | refine T.G rfl ?_ | refine J.G rfl ?_ | refine J.H rfl ?_ | refine T.rd rfl (by decide +kernel) ?_ | fail); conv => whnf)
      refine J.sub (Rel.deraw (s := 22) (g := 1002) rfl rfl) ?_
      repeat' ((first | refine T.G rfl ?_ | refine J.G rfl ?_ | refine J.H rfl ?_ | refine T.rd rfl (by decide +kernel) ?_ | fail); conv => whnf)
      refine J.dl (i : Int) rfl rfl rfl rfl rfl rfl rfl rfl rfl rfl (keyI Tryz.underlying3) (fun _ _ _ h => rep_int h) ?_
      repeat' ((first | refine T.G rfl ?_ | refine J.G rfl ?_ | refine J.H rfl ?_ | refine T.rd rfl (by decide +kernel) ?_ | fail); conv => whnf)
      exact ⟨[0, 1], [], [], ⟨rfl, rfl, rfl, rfl, rfl, rfl, trivial⟩, trivial, rfl, .v rfl rfl rfl (fun _ => rfl) (.v rfl rfl rfl (fun _ => rfl) .nil)⟩
    · rw [eq_false_of_ne_true hs]
      repeat' ((first | refine T.G rfl ?_ | refine J.G rfl ?_ | refine J.H rfl ?_ | refine T.rd rfl (by decide +kernel) ?_ | fail); conv => whnf)
      refine T.cf rfl ?_
      repeat' ((first | refine T.G rfl ?_ | refine J.G rfl ?_ | refine J.H rfl ?_ | refine T.rd rfl (by decide +kernel) ?_ | fail); conv => whnf)
      have hw : IntKind.i64.wrap ((i : Int) + 1) = ((i + 1 : Nat) : Int) := by rw [wrap_id (by omega) (by omega)]; omega
      rw [hw]
      refine T.canon (keep := [0, 9, 10, 1001, 1002]) (os := [0, 1002]) rfl (ih (i + 1) ⟨by omega, fun j hj => ?_⟩ (by omega))
      by_cases e : j = i
      · subst e; exact eq_false_of_ne_true hs
      · exact hb j (by omega)
  · have h1 : i = rows.length := by simp at h1; omega
    subst h1
    have hn : nextP rows.length o = none := by
      unfold nextP
      rw [List.find?_eq_none]
      intro j hj
      rw [hb j (List.mem_range.1 hj)]
      simp
    rw [hn]
    repeat' ((first | refine T.G rfl ?_ | refine J.G rfl ?_ | refine J.H rfl ?_ | refine T.rd rfl (by decide +kernel) ?_ | fail); conv => whnf)
    exact ⟨[0, 1], [], [], ⟨rfl, rfl, rfl, rfl, rfl, rfl, trivial⟩, trivial, rfl, .v rfl rfl rfl (fun _ => rfl) (.v rfl rfl rfl (fun _ => rfl) .nil)⟩
def openAll (l : List Int) (o : Seen) : Seen := l.foldl (fun o i => upA o i true) o
theorem zeroL (w : World) : (zeroValue 24).run Tryz.prog w = .ok (.slice none 0 0) w := by kernel_rfl
theorem changed_spec (rows : List (List PV)) (o : Seen) (u : Uses) (v : Int) (uq ua uu : Value) (hl : ∀ p ∈ u, p.2.length * 8 ≤ 140737488355328) :
    SpecO Tryz.prog 48 false [uq, ua, uu] [boxQ rows ua uu, mpS o, mpU u] [.raw uq, .int .i64 v] [boxQ rows ua uu, mpS (openAll ((lkA u v).getD []) o), mpU u] (fun _ => []) (fun _ => []) := by
  refine SpecO.body [1001, 1002, 1003] [] Tryz.func48 rfl rfl rfl rfl fun w0 Z1 => ?_
  refine T.sub (Rel.derawp (s := 0) (g := 1001) rfl rfl rfl) ?_
  refine T.sub (Rel.fine (s := 1) rfl rfl) ?_
  repeat' ((first | refine T.G rfl ?_ | refine J.G rfl ?_ | refine J.H rfl ?_ | refine T.rd rfl (by decide +kernel) ?_ | fail); conv => whnf)
  refine J.sub (Rel.deraw (s := 9) (g := 1003) rfl rfl) ?_
  repeat' ((first | refine T.G rfl ?_ | refine J.G rfl ?_ | refine J.H rfl ?_ | refine T.rd rfl (by decide +kernel) ?_ | fail); conv => whnf)
  refine J.ml v (.sl []) rfl rfl rfl rfl rfl rfl rfl rfl rfl zeroL (fun _ _ => .nilsl) (keyI Tryz.underlying3) (fun _ _ _ h => rep_int h) ?_
  have hmb : ((lkA u v).map ints).getD (.sl []) = ints ((lkA u v).getD []) := by cases lkA u v <;> rfl
  rw [hmb]
  have hll : ((lkA u v).getD []).length * 8 ≤ 140737488355328 := by
    cases h : lkA u v with
    | none => simp
    | some l => exact hl _ (lk_mem h)
  generalize hL : (lkA u v).getD [] = l at *
  generalize hR : openAll l o = R
  repeat' ((first | refine T.G rfl ?_ | refine J.G rfl ?_ | refine J.H rfl ?_ | refine T.rd rfl (by decide +kernel) ?_ | fail); conv => whnf)
  refine T.canon (keep := [0, 11, 12, 13, 1001, 1002, 1003]) (os := [0, 1002, 1003]) rfl (T.ind (fun x : Nat × Seen => ⟨[(0, .optr 0 0 0 0), (11, .val true (ints l)), (12, .val true (.int .i64 (l.map cI).length)), (13, .val true (.int .i64 x.1)), (1001, .eq uq 0), (1002, .eq ua 1), (1003, .eq uu 2)], [(0, some (boxQ rows ua uu)), (1, some (mpS x.2)), (2, some (mpU u))], 3⟩)
    (fun x => x.1 ≤ l.length ∧ openAll (l.drop x.1) x.2 = R) (fun x => l.length - x.1) (0, o) ⟨by simp, hR⟩ (fun _ _ h => h) ?_)
  rintro ⟨i, s⟩ ⟨hi, hR⟩ ih
  simp only at hi hR
  dsimp only
  repeat' ((first | refine T.G rfl ?_ | refine J.G rfl ?_ | refine J.H rfl ?_ | refine T.rd rfl (by decide +kernel) ?_ | fail); conv => whnf)
  refine T.cd rfl (fun h1 => ?_) (fun h1 => ?_)
  · have h1 : i < l.length := by simpa using h1
    rw [List.drop_eq_getElem_cons h1] at hR
    repeat' ((first | refine T.G rfl ?_ | refine J.G rfl ?_ | refine J.H rfl ?_ | refine T.rd rfl (by decide +kernel) ?_ | fail); conv => whnf)
    refine J.i rfl rfl rfl rfl rfl rfl rfl rfl rfl (r := cI l[i]) (by omega) (row_i h1) rfl ?_
    repeat' ((first | refine T.G rfl ?_ | refine J.G rfl ?_ | refine J.H rfl ?_ | refine T.rd rfl (by decide +kernel) ?_ | fail); conv => whnf)
    refine J.sub (Rel.deraw (s := 20) (g := 1002) rfl rfl) ?_
    repeat' ((first | refine T.G rfl ?_ | refine J.G rfl ?_ | refine J.H rfl ?_ | refine T.rd rfl (by decide +kernel) ?_ | fail); conv => whnf)
    refine J.mu l[i] true rfl rfl rfl rfl rfl rfl rfl rfl rfl rfl rfl (keyI Tryz.underlying3) (fun _ _ _ h => rep_int h) rfl ?_
    repeat' ((first | refine T.G rfl ?_ | refine J.G rfl ?_ | refine J.H rfl ?_ | refine T.rd rfl (by decide +kernel) ?_ | fail); conv => whnf)
    rw [wrap1 (l := l.length) h1 hll]
    exact T.canon (keep := [0, 11, 12, 13, 1001, 1002, 1003]) (os := [0, 1002, 1003]) rfl (ih (i + 1, upA s l[i] true) ⟨by omega, hR⟩ (by show _ - _ < _ - _; omega))
  · have h1 : i = l.length := by simp at h1; omega
    subst h1
    rw [List.drop_length] at hR
    obtain rfl : s = R := hR
    repeat' ((first | refine T.G rfl ?_ | refine J.G rfl ?_ | refine J.H rfl ?_ | refine T.rd rfl (by decide +kernel) ?_ | fail); conv => whnf)
    exact ⟨[0, 1, 2], [], [], ⟨rfl, rfl, rfl, rfl, rfl, rfl, rfl, rfl, rfl, trivial⟩, trivial, rfl, .nil⟩
end Go.Proofs.YtlcobmehnaeebaaGreat
namespace Go.Proofs.YtlcobmehnaeebaaGreat
open Go Go.Shelf Go.RowKit
def ly_laysNm220_ren : Go.Shelf.Ren := ⟨fun | 20 => 138 | n => n, fun | 22 => 24 | 3 => 3 | 4 => 4 | 0 => 0 | n => n, fun | n => n⟩
theorem ly_laysNm220 : Go.Proofs.Lays2.n20 Tryz.prog ly_laysNm220_ren := {
  mixed := by kernel_rfl
  f20 := Tryz.func138.trans (congrArg some (by kernel_rfl))
  t0 := Tryz.underlying0
  a0 := Tryz.isAgg0
  z0 := Tryz.sizeOf0
  v0 := Tryz.zeroValue0
  t3 := Tryz.underlying3
  a3 := Tryz.isAgg3
  z3 := Tryz.sizeOf3
  v3 := Tryz.zeroValue3
  t4 := Tryz.underlying4
  a4 := Tryz.isAgg4
  z4 := Tryz.sizeOf4
  v4 := Tryz.zeroValue4
  t22 := Tryz.underlying24
  a22 := Tryz.isAgg24
  z22 := Tryz.sizeOf24
  v22 := Tryz.zeroValue24
  i3 := by kernel_rfl }
open Go.RowKit Go.Lib Go.Sort in
theorem ly_slices_Compact_int (blk off cap : Nat) (zs : List Int) (w : World) (hH : Holds (Value.int .i64) w blk off zs.toArray) (hsz : zs.length ≤ 9223372036854775807) (hcap : zs.length ≤ cap) :
    Calls Tryz.prog 138 #[.slice (some ⟨blk, off, none⟩) zs.length cap] w fun e w' => e = .returned (.slice (some ⟨blk, off, none⟩) (Lib.compact zs).length cap) ∧ ∃ q, w' = putRow (Value.int .i64) (Sort.ahead w q) blk off (Lib.compact zs ++ List.replicate (zs.length - (Lib.compact zs).length) 0).toArray := Any.slices_Compact_int ly_laysNm220 blk off cap zs w hH hsz hcap
open Go.RowKit Go.Lib Go.Sort in
theorem ly_slices_Compact_int_empty (a : Option Addr) (cap : Nat) (w : World) :
    Calls Tryz.prog 138 #[.slice a 0 cap] w fun e w' => e = .returned (.slice a 0 cap) ∧ w' = w := Any.slices_Compact_int_empty ly_laysNm220 a cap w
end Go.Proofs.YtlcobmehnaeebaaGreat
namespace Go.Proofs.YtlcobmehnaeebaaGreat
open Go Go.RowKit Go.Sort
set_option linter.unusedVariables false
set_option linter.unusedSimpArgs false
set_option maxRecDepth 8000

theorem put_ints {w : World} {g cap n : Nat} {e : TypeId} {cur : Array Value} {ts : List Int} (k : Nat) (hb : w.heap[g]? = some (.cells cur e (0, 0))) (hk : k ≤ ts.length) (hcap : ts.length ≤ cap) (hmax : cap ≤ maxLen) (hsz : cur.size = cap * 1) {w' : World} (hw : w' = putRow (Value.int .i64) (Sort.ahead w n) g 0 ts.toArray) :
    w'.os = w.os ∧ w'.tape = w.tape ∧ w'.output = w.output ∧ w.heap.size ≤ w'.heap.size ∧ (∀ b, b < w.heap.size → b ≠ g → w'.heap[b]? = w.heap[b]?) ∧ w'.ownsRow 0 e 1 (.slice (some ⟨g, 0, none⟩) k cap) k ((ts.take k).map (Value.int .i64)) := by
  subst hw
  refine ⟨rfl, rfl, rfl, by simp, fun b hb hne => ?_, ?_⟩
  · simp [putRow, mapBlock, Sort.ahead, Array.getElem?_modify, Ne.symm hne]
  · have hh : (putRow (Value.int .i64) (Sort.ahead w n) g 0 ts.toArray).heap[g]? = some (.cells (Go.Sort.putCells (Value.int .i64) 0 ts.toArray cur) e (0, 0)) := by
      simp [putRow, mapBlock, Sort.ahead, Array.getElem?_modify, hb, onCells]
    have ht := take_putCellsI cur ts (by omega)
    refine ⟨by simp; omega, .inr ⟨g, cap, _, rfl, Nat.zero_le _, hh, by omega, hmax, by simp [Go.Sort.putCells, hsz], ?_⟩⟩
    rw [Nat.mul_one, List.map_take, ← ht, List.take_take, Nat.min_eq_left hk]
theorem pre_spec {f : FuncId} {fn : Func} {us : List Value} {cs : List Own} (l : List Int) (args : List PV) (l' : List Int) (hl : l.length * 8 ≤ 140737488355328) (hll : l'.length ≤ l.length) (hf : Tryz.prog.funcs[f]? = some fn) (hb : fn.body.isSome = true) (hn : (fn.name == "runtime.NumGoroutine") = false)
    (h0 : l = [] → ∀ (w : World) (vs : List Value), L2 (Rep w fun _ => True) vs args → Calls Tryz.prog f (.slice none 0 0 :: vs).toArray w fun e w' => e = .returned (.slice none 0 0) ∧ w' = w)
    (h1 : ∀ (g cap : Nat) (w : World) (vs : List Value), Holds (Value.int .i64) w g 0 l.toArray → g < w.heap.size → l.length ≤ cap → L2 (OwnRel w fun _ b => b ≠ g ∧ Off us b) us cs → Apart3 us → (∀ u g', u ∈ us → VB u g' → g' ≠ g) → L2 (Rep w fun b => b ≠ g ∧ Off us b) vs args →
      Calls Tryz.prog f (.slice (some ⟨g, 0, none⟩) l.length cap :: vs).toArray w fun e w' => e = .returned (.slice (some ⟨g, 0, none⟩) l'.length cap) ∧ ∃ q, w' = putRow (Value.int .i64) (Sort.ahead w q) g 0 (l' ++ List.replicate (l.length - l'.length) 0).toArray) :
    SpecP Tryz.prog f us cs 3 1 (l.map cI) args (l'.map cI) := by
  refine ⟨⟨fn, hf, hb, hn⟩, fun w Z1 v0 vs ho hz hus hap hdis hvs => ?_⟩
  obtain ⟨xs, hrow, hx, _, _⟩ := ho
  rw [show (l.map cI).flatten = l.map (PV.int .i64) from flat1 _ l] at hx
  obtain rfl := ints_rep hx
  rw [List.length_map] at hrow
  obtain ⟨hln, hrow⟩ := hrow
  have hfin : ∀ (w' : World) (v : Value), w'.ownsRow 0 3 1 v l'.length (l'.map (Value.int .i64)) → OwnRel w' (fun _ => Z1) v (.sl 3 1 true (l'.map cI)) := fun w' v h => by
    refine ⟨l'.map (Value.int .i64), by rw [List.length_map]; exact h, ?_, fun r hr => by obtain ⟨x, _, rfl⟩ := List.mem_map.1 hr; rfl, fun r hr p hp => by obtain ⟨x, _, rfl⟩ := List.mem_map.1 hr; simp [cI] at hp; rw [hp]; rfl⟩
    rw [show (l'.map cI).flatten = l'.map (PV.int .i64) from flat1 _ _]
    exact rep_intsL _
  rcases hrow with ⟨rfl, hnil⟩ | ⟨g, cap, cur, rfl, _, hb, hcap, hmax, hsz, htk⟩
  · obtain rfl : l = [] := by simpa using hnil
    obtain rfl : l' = [] := by cases l' with | nil => rfl | cons _ _ => simp at hll
    refine (h0 rfl w vs (hvs.imp fun _ _ h => h.mono fun _ _ _ => ⟨trivial, rfl⟩)).mono ?_
    rintro e w' ⟨rfl, rfl⟩
    exact ⟨_, rfl, rfl, rfl, rfl, Nat.le_refl _, fun _ _ _ => rfl, hfin _ _ ⟨rfl, .inl ⟨rfl, rfl⟩⟩, fun g hg => hg⟩
  · have hg : g < w.heap.size := (Array.getElem?_eq_some_iff.1 hb).1
    have hvb : ∀ b, VB (.slice (some ⟨g, 0, none⟩) l.length cap) b ↔ b = g := fun b => by simp [VB, vblock]; exact eq_comm
    rw [Nat.mul_one] at htk
    have hZ : ∀ b, (¬ VB (.slice (some ⟨g, 0, none⟩) l.length cap) b ∧ Off us b) → b ≠ g ∧ Off us b := fun b h => ⟨fun e => h.1 ((hvb b).2 e), h.2⟩
    refine (h1 g cap w vs (holds_of_blockI hb htk) hg (by simpa using hcap) (hus.imp fun u c h => own_to h fun b hb => hZ b hb) hap (fun u g' hu hv e => hdis u g' hu hv ((hvb g').2 e)) (hvs.imp fun _ _ h => h.mono fun b hb _ => ⟨hZ b hb, rfl⟩)).mono ?_
    rintro e w' ⟨rfl, q, hw⟩
    have htl : (l' ++ List.replicate (l.length - l'.length) (0 : Int)).length = l.length := by simp; omega
    obtain ⟨a1, a2, a3, a4, a5, a6⟩ := put_ints (ts := l' ++ List.replicate (l.length - l'.length) 0) l'.length hb (by omega) (by rw [htl]; simpa using hcap) hmax hsz hw
    rw [List.take_left] at a6
    exact ⟨_, rfl, a1, a2, a3, a4, fun b hb hn => a5 b hb fun e => hn ((hvb b).2 e), hfin _ _ a6, fun g' hg' => (hvb g').2 (by simpa [VB, vblock, eq_comm] using hg')⟩
theorem compact_spec (l : List Int) (hl : l.length * 8 ≤ 140737488355328) : SpecP Tryz.prog 138 [] [] 3 1 (l.map cI) [] ((Lib.compact l).map cI) := by
  have hle : (Lib.compact l).length ≤ l.length := by
    unfold Lib.compact Lib.compactUpTo
    rw [List.length_map]
    exact Nat.le_trans (List.length_filter_le _ _) (by simp)
  refine pre_spec l [] (Lib.compact l) hl hle Tryz.func138 rfl rfl (fun h w vs hvs => ?_) (fun g cap w vs hH hg hc _ _ _ hvs => ?_)
  · cases hvs
    exact ly_slices_Compact_int_empty none 0 w
  · cases hvs
    exact ly_slices_Compact_int g 0 cap l w hH (by omega) hc
theorem compact_up {l : List Int} (h : l.Pairwise (· ≤ ·)) : Up (Lib.compact l) ∧ ∀ x, x ∈ Lib.compact l ↔ x ∈ l := by
  have hget : ∀ j, j < l.length → l.toArray[j]! = l.getD j 0 := fun j hj => by
    rw [List.getD_eq_getElem?_getD, List.getElem?_eq_getElem hj]
    simp [hj]
  have hle : ∀ i j, i ≤ j → j < l.length → l.getD i 0 ≤ l.getD j 0 := fun i j hij hj => by
    rw [List.getD_eq_getElem?_getD, List.getD_eq_getElem?_getD, List.getElem?_eq_getElem hj, List.getElem?_eq_getElem (by omega)]
    by_cases e : i = j
    · subst e; exact Int.le_refl _
    · exact List.pairwise_iff_getElem.1 h i j (by omega) hj (by omega)
  have key : ∀ m, m ≤ l.length → Up (Lib.compactUpTo l.toArray m) ∧ (∀ x, x ∈ Lib.compactUpTo l.toArray m ↔ ∃ j, j < m ∧ l.getD j 0 = x) := by
    intro m
    induction m with
    | zero => intro _; exact ⟨by simp [Lib.compactUpTo, Up], by simp [Lib.compactUpTo]⟩
    | succ m ih =>
      intro hm
      obtain ⟨h1, h2⟩ := ih (by omega)
      rw [Lib.compactUpTo_succ]
      by_cases hk : Lib.keeps l.toArray m = true
      · rw [if_pos hk, hget m (by omega)]
        refine ⟨List.pairwise_append.2 ⟨h1, List.pairwise_singleton _ _, fun x hx y hy => ?_⟩, fun x => ?_⟩
        · obtain ⟨j, hj, rfl⟩ := (h2 x).1 hx
          rw [List.mem_singleton.1 hy]
          have e1 := hle j (m - 1) (by omega) (by omega)
          have e2 := hle (m - 1) m (by omega) (by omega)
          simp only [Lib.keeps, decide_eq_true_eq] at hk
          have hne : l.toArray[m]! ≠ l.toArray[m - 1]! := hk.resolve_left (by omega)
          rw [hget m (by omega), hget (m - 1) (by omega)] at hne
          omega
        · rw [List.mem_append, h2, List.mem_singleton]
          constructor
          · rintro (⟨j, hj, e⟩ | rfl)
            · exact ⟨j, by omega, e⟩
            · exact ⟨m, by omega, rfl⟩
          · rintro ⟨j, hj, e⟩
            by_cases hjm : j = m
            · subst hjm; exact .inr e.symm
            · exact .inl ⟨j, by omega, e⟩
      · rw [if_neg hk, List.append_nil]
        refine ⟨h1, fun x => ?_⟩
        rw [h2]
        constructor
        · rintro ⟨j, hj, e⟩; exact ⟨j, by omega, e⟩
        · rintro ⟨j, hj, e⟩
          by_cases hjm : j = m
          · subst hjm
            simp only [Lib.keeps, decide_eq_true_eq, not_or, ne_eq, Classical.not_not] at hk
            have := hk.2
            rw [hget j (by omega), hget (j - 1) (by omega)] at this
            exact ⟨j - 1, by omega, by rw [← this]; exact e⟩
          · exact ⟨j, by omega, e⟩
  obtain ⟨h1, h2⟩ := key l.length (Nat.le_refl _)
  refine ⟨h1, fun x => ?_⟩
  rw [show Lib.compact l = Lib.compactUpTo l.toArray l.length from rfl, h2]
  constructor
  · rintro ⟨j, hj, rfl⟩
    rw [List.getD_eq_getElem?_getD, List.getElem?_eq_getElem hj]
    exact List.getElem_mem hj
  · intro hx
    obtain ⟨j, hj, rfl⟩ := List.getElem_of_mem hx
    exact ⟨j, hj, by rw [List.getD_eq_getElem?_getD, List.getElem?_eq_getElem hj]; rfl⟩
theorem compact_sort (l : List Int) : Lib.compact (sortI l) = sortU l := by
  have hs : (sortI l).Pairwise (· ≤ ·) := by
    have := List.pairwise_mergeSort (le := fun x y : Int => decide (x ≤ y)) (fun a b c h1 h2 => by simp at h1 h2 ⊢; omega) (fun a b => by simp; omega) l
    exact this.imp fun h => by simpa using h
  obtain ⟨h1, h2⟩ := compact_up hs
  refine up_ext h1 (sortU_up l) fun x => ?_
  rw [h2, sortU_mem]
  exact (List.mergeSort_perm l _).mem_iff
theorem muses_spec (c : Con) (hc : ConB c) : Spec Tryz.prog 98 false [.agg (cC c)] [.own 3 1 ((usesR c).map cI)] := by
  refine Spec.body Tryz.func98 rfl rfl rfl fun w0 Z0 => ?_
  obtain ⟨h1, h2, h3, h4⟩ := hc
  unfold usesR
  have hll : ((if c.kind = 4 then c.vars ++ [c.b] else c.vars) : List Int).length * 8 ≤ 140737488355328 := by
    split
    · simp; omega
    · omega
  have fin : ∀ (l : List Int), l.length * 8 ≤ 140737488355328 → (sortI l).length * 8 ≤ 140737488355328 := fun l h => by
    rw [show (sortI l).length = l.length from List.length_mergeSort ..]; exact h
  repeat' ((first | refine T.G rfl ?_ | refine J.G rfl ?_ | refine J.H rfl ?_ | refine T.rd rfl (by decide +kernel) ?_ | fail); conv => whnf)
  refine J.cc rfl rfl rfl rfl rfl (clonei_spec c.vars (by omega)) rfl rfl ?_
  repeat' ((first | refine T.G rfl ?_ | refine J.G rfl ?_ | refine J.H rfl ?_ | refine T.rd rfl (by decide +kernel) ?_ | fail); conv => whnf)
  refine T.cd rfl (fun hk => ?_) (fun hk => ?_)
  · have hk : c.kind = 4 := hk
    rw [if_pos hk] at hll ⊢
    have hf := fin _ hll
    repeat' ((first | refine T.G rfl ?_ | refine J.G rfl ?_ | refine J.H rfl ?_ | refine T.rd rfl (by decide +kernel) ?_ | fail); conv => whnf)
    refine J.bv rfl rfl rfl rfl rfl rfl rfl rfl rfl rfl rfl rfl ?_
    refine J.aI rfl rfl rfl rfl rfl rfl rfl rfl rfl rfl rfl rfl rfl rfl rfl rfl rfl rfl rfl (by omega) ?_
    repeat' ((first | refine T.G rfl ?_ | refine J.G rfl ?_ | refine J.H rfl ?_ | refine T.rd rfl (by decide +kernel) ?_ | fail); conv => whnf)
    refine J.cm rfl rfl rfl rfl rfl rfl rfl rfl rfl (sort_specM (c.vars ++ [c.b]) hll) rfl rfl rfl ?_
    repeat' ((first | refine T.G rfl ?_ | refine J.G rfl ?_ | refine J.H rfl ?_ | refine T.rd rfl (by decide +kernel) ?_ | fail); conv => whnf)
    refine J.cp (cs2 := []) (qs := []) [] rfl rfl rfl rfl rfl rfl rfl rfl (compact_spec _ hf) trivial rfl rfl rfl rfl rfl rfl ?_
    rw [compact_sort]
    repeat' ((first | refine T.G rfl ?_ | refine J.G rfl ?_ | refine J.H rfl ?_ | refine T.rd rfl (by decide +kernel) ?_ | fail); conv => whnf)
    exact ⟨_, .o rfl rfl rfl (fun _ => .inl rfl) (by simp) .nil⟩
  · have hk : ¬ c.kind = 4 := hk
    rw [if_neg hk] at hll ⊢
    have hf := fin _ hll
    repeat' ((first | refine T.G rfl ?_ | refine J.G rfl ?_ | refine J.H rfl ?_ | refine T.rd rfl (by decide +kernel) ?_ | fail); conv => whnf)
    refine J.cm rfl rfl rfl rfl rfl rfl rfl rfl rfl (sort_specM c.vars hll) rfl rfl rfl ?_
    repeat' ((first | refine T.G rfl ?_ | refine J.G rfl ?_ | refine J.H rfl ?_ | refine T.rd rfl (by decide +kernel) ?_ | fail); conv => whnf)
    refine J.cp (cs2 := []) (qs := []) [] rfl rfl rfl rfl rfl rfl rfl rfl (compact_spec _ hf) trivial rfl rfl rfl rfl rfl rfl ?_
    rw [compact_sort]
    repeat' ((first | refine T.G rfl ?_ | refine J.G rfl ?_ | refine J.H rfl ?_ | refine T.rd rfl (by decide +kernel) ?_ | fail); conv => whnf)
    exact ⟨_, .o rfl rfl rfl (fun _ => .inl rfl) (by simp) .nil⟩
end Go.Proofs.YtlcobmehnaeebaaGreat
namespace Go.Proofs.YtlcobmehnaeebaaGreat
open Go Go.RowKit
set_option linter.unusedVariables false
set_option linter.unusedSimpArgs false
set_option maxRecDepth 8000

abbrev nilS : Value := .slice none 0 0
def fvL (L : FamL) (k : Int) : Value := (L.getD k.toNat (nilS, [])).1
def usesAdd (u : Uses) (i : Int) (vs : List Int) : Uses := vs.foldl (fun u v => upA u v ((lkA u v).getD [] ++ [i])) u
def begunGo : Nat → List Con → Seen → Uses → Seen × Uses
  | _, [], o, u => (o, u)
  | i, c :: cs, o, u => begunGo (i + 1) cs (upA o i true) (usesAdd u i (usesR c))
def begunP (cons : List Con) : Seen × Uses := begunGo 0 cons [] []
theorem lk_mapv {β γ : Type} (f : Int → γ) (a : Int) : ∀ u : List (Int × β), lkA (u.map fun p => (p.1, f p.1)) a = (lkA u a).map fun _ => f a
  | [] => rfl
  | p :: u => by
    rw [List.map_cons, lkA_cons, lkA_cons, lk_mapv f a u]
    by_cases h : p.1 = a
    · simp [h]
    · simp [h]
theorem up_mapv {β γ : Type} {f f' : Int → γ} {a : Int} {y : γ} {x : β} (h2 : f' a = y) : ∀ u : List (Int × β), (u.map (·.1)).Nodup → (∀ p ∈ u, p.1 ≠ a → f' p.1 = f p.1) → upA (u.map fun p => (p.1, f p.1)) a y = (upA u a x).map fun p => (p.1, f' p.1)
  | [], _, _ => by simp [upA, fiA, h2]
  | p :: u, hn, h1 => by
    have hn := List.nodup_cons.1 hn
    rw [List.map_cons, up_cons, up_cons]
    by_cases h : p.1 = a
    · rw [if_pos h, if_pos h, List.map_cons, h2]
      congr 1
      refine List.map_congr_left fun q hq => ?_
      have : q.1 ≠ a := fun e => hn.1 (List.mem_map.2 ⟨q, hq, e.trans h.symm⟩)
      rw [h1 q (.tail _ hq) this]
    · rw [if_neg h, if_neg h, List.map_cons, h1 p (.head _) h, up_mapv h2 u hn.2 fun q hq => h1 q (.tail _ hq)]
theorem up_keys {β : Type} {a : Int} {x : β} : ∀ u : List (Int × β), (u.map (·.1)).Nodup → ((upA u a x).map (·.1)).Nodup
  | [], _ => by simp [upA, fiA]
  | p :: u, hn => by
    have hn2 := List.nodup_cons.1 hn
    rw [up_cons]
    by_cases h : p.1 = a
    · rw [if_pos h]
      have e : ((a, x) :: u).map (·.1) = (p :: u).map (·.1) := by simp [h]
      rw [e]; exact hn
    · rw [if_neg h, List.map_cons]
      refine List.nodup_cons.2 ⟨fun hm => ?_, up_keys u hn2.2⟩
      obtain ⟨q, hq, e⟩ := List.mem_map.1 hm
      rcases mem_upA hq with hq | rfl
      · exact hn2.1 (List.mem_map.2 ⟨q, hq, e⟩)
      · exact h e.symm
theorem lk_of_mem {β : Type} : ∀ {u : List (Int × β)}, (u.map (·.1)).Nodup → ∀ {p : Int × β}, p ∈ u → lkA u p.1 = some p.2
  | q :: u, hn, p, hp => by
    have hn2 := List.nodup_cons.1 hn
    rw [lkA_cons]
    rcases List.mem_cons.1 hp with rfl | hp
    · rw [if_pos rfl]
    · have : q.1 ≠ p.1 := fun e => hn2.1 (List.mem_map.2 ⟨p, hp, e.symm⟩)
      rw [if_neg this]
      exact lk_of_mem hn2.2 hp
structure UsOk (N t : Nat) (u : Uses) (L : FamL) : Prop where
  rows : L.map (·.2) = (List.range N).map fun k : Nat => ((lkA u (k : Int)).getD []).map cI
  nil : ∀ k : Nat, lkA u (k : Int) = none → (L.getD k (nilS, [])).1 = nilS
  nod : (u.map (·.1)).Nodup
  ks : ∀ p ∈ u, 0 ≤ p.1 ∧ p.1.toNat < N
  len : ∀ p ∈ u, p.2.length ≤ t
theorem UsOk.at {N t : Nat} {u : Uses} {L : FamL} (h : UsOk N t u L) {k : Nat} (hk : k < N) : ∃ v, L[k]? = some (v, ((lkA u (k : Int)).getD []).map cI) ∧ fvL L k = v := by
  have e : (L.map (·.2))[k]? = some (((lkA u (k : Int)).getD []).map cI) := by rw [h.rows, List.getElem?_map, List.getElem?_range hk]; rfl
  rw [List.getElem?_map] at e
  obtain ⟨p, hp, e2⟩ := Option.map_eq_some_iff.1 e
  refine ⟨p.1, by rw [hp, ← e2], ?_⟩
  unfold fvL
  rw [Int.toNat_natCast, List.getD_eq_getElem?_getD, hp]; rfl
theorem UsOk.put {N t : Nat} {u : Uses} {L : FamL} (h : UsOk N t u L) {v i : Int} (h0 : 0 ≤ v) (hv : v.toNat < N) (u' : Value) :
    UsOk N (t + 1) (upA u v ((lkA u v).getD [] ++ [i])) (L.set v.toNat (u', ((lkA u v).getD [] ++ [i]).map cI)) ∧
    upA (u.map fun p => (p.1, fvL L p.1)) v u' = (upA u v ((lkA u v).getD [] ++ [i])).map fun p => (p.1, fvL (L.set v.toNat (u', ((lkA u v).getD [] ++ [i]).map cI)) p.1) := by
  have hL : L.length = N := by have := congrArg List.length h.rows; simpa using this
  have ev : ((v.toNat : Nat) : Int) = v := by omega
  have hlen : ((lkA u v).getD []).length ≤ t := by
    cases hc : lkA u v with
    | none => simp
    | some l => exact h.len _ (lk_mem hc)
  refine ⟨⟨?_, fun k hk => ?_, up_keys u h.nod, fun p hp => ?_, fun p hp => ?_⟩, up_mapv ?_ u h.nod fun p hp hne => ?_⟩
  · rw [List.map_set, h.rows, range_set]
    refine List.map_congr_left fun j _ => ?_
    rw [lk_up]
    by_cases e : j = v.toNat
    · rw [if_pos e, if_pos (by omega)]; rfl
    · rw [if_neg e, if_neg (by omega)]
  · rw [lk_up] at hk
    split at hk
    · cases hk
    · rename_i hne
      rw [List.getD_eq_getElem?_getD, List.getElem?_set_ne (by omega), ← List.getD_eq_getElem?_getD]
      exact h.nil k hk
  · rcases mem_upA hp with hp | rfl
    · exact h.ks p hp
    · exact ⟨h0, hv⟩
  · rcases mem_upA hp with hp | rfl
    · have := h.len p hp; omega
    · simp; omega
  · unfold fvL
    rw [List.getD_eq_getElem?_getD, List.getElem?_set_self (by omega)]; rfl
  · have := h.ks p hp
    unfold fvL
    rw [List.getD_eq_getElem?_getD, List.getElem?_set_ne (by omega), ← List.getD_eq_getElem?_getD]
def consPV (cons : List Con) : PV := .sl (cons.map cC)
def mpR (u : Uses) (L : FamL) : Own := .mp true none ((u.map fun p => (p.1, fvL L p.1)).map fun p => (Value.int .i64 p.1, PV.raw p.2))
theorem begun_spec (cons : List Con) (N : Nat) (hc : ∀ c ∈ cons, ConB c) (hN : ∀ c ∈ cons, ∀ v ∈ usesR c, 0 ≤ v ∧ v.toNat < N) (hl : cons.length * 128 ≤ 140737488355328) (hM : ((cons.map fun c => (usesR c).length).sum + 1) * 8 ≤ 140737488355328) :
    SpecO Tryz.prog 45 true [] [] [consPV cons] [] (fun ns => [boxQ (cons.map cC) (ns.getD 1 undef) (ns.getD 2 undef), mpS (begunP cons).1, mpU (begunP cons).2]) (fun ns => [.raw (ns.getD 0 undef)]) := by
  refine SpecO.body [] [1001, 1002, 1003] Tryz.func45 rfl rfl rfl rfl fun w0 Z1 => ?_
  generalize hM2 : (cons.map fun c => (usesR c).length).sum = M at hM
  generalize hR : begunP cons = R
  repeat' ((first | refine T.G rfl ?_ | refine J.G rfl ?_ | refine J.H rfl ?_ | refine T.rd rfl (by decide +kernel) ?_ | fail); conv => whnf)
  refine J.mm rfl rfl rfl rfl ?_
  refine J.mm rfl rfl rfl rfl ?_
  refine J.name 1002 (s := 9) rfl rfl rfl fun ua => ?_
  refine J.name 1003 (s := 10) rfl rfl rfl fun uu => ?_
  refine J.sub (Rel.raw (s := 9) (g := 1002) rfl (.inl rfl) rfl rfl rfl) ?_
  refine J.sub (Rel.raw (s := 10) (g := 1003) rfl (.inl rfl) rfl rfl rfl) ?_
  repeat' ((first | refine T.G rfl ?_ | refine J.G rfl ?_ | refine J.H rfl ?_ | refine T.rd rfl (by decide +kernel) ?_ | fail); conv => whnf)
  refine T.sub (fun a w h => Rel.fam0 N 3 1 h) ?_
  refine T.nameO 1004 3 rfl rfl fun U0 => ?_
  refine T.name 1001 (s := 3) rfl rfl rfl fun uq => ?_
  have hcl : (cons.map cC).length = cons.length := List.length_map ..
  refine T.canon (keep := [3, 13, 14, 15, 1001, 1002, 1003, 1004]) (os := [3, 1002, 1003, 1004]) rfl (T.ind (fun x : Nat × Seen × Uses × Value × FamL => ⟨[(3, .optr 0 0 0 0), (13, .val true (consPV cons)), (14, .val true (.int .i64 (cons.map cC).length)), (15, .val true (.int .i64 x.1)), (1001, .eq uq 0), (1002, .eq ua 1), (1003, .eq uu 2), (1004, .eq x.2.2.2.1 3)], [(0, some (boxQ (cons.map cC) ua uu)), (1, some (mpS x.2.1)), (2, some (mpR x.2.2.1 x.2.2.2.2)), (3, some (.fam 3 1 true x.2.2.2.2))], 4⟩)
    (fun x => x.1 ≤ cons.length ∧ begunGo x.1 (cons.drop x.1) x.2.1 x.2.2.1 = R ∧ ∃ t, UsOk N t x.2.2.1 x.2.2.2.2 ∧ t + ((cons.drop x.1).map fun c => (usesR c).length).sum ≤ M) (fun x => cons.length - x.1) (0, [], [], U0, List.replicate N (nilS, []))
    ⟨by simp, hR, 0, ⟨by simp [List.map_const', lk_nil], fun k hk => ?_, .nil, by simp, by simp⟩, by simp [hM2]⟩ (fun _ _ h => h) ?_)
  · show ((List.replicate N ((nilS, []) : Value × List (List PV))).getD k (nilS, [])).1 = nilS
    rw [List.getD_eq_getElem?_getD]
    cases hk : (List.replicate N ((nilS, []) : Value × List (List PV)))[k]? with
    | none => rfl
    | some p => rw [List.eq_of_mem_replicate (List.mem_of_getElem? hk)]; rfl
  rintro ⟨i, o, u, U, L⟩ ⟨hi, hR, t, hu, ht⟩ ih
  simp only at hi hR hu ht
  dsimp only
  repeat' ((first | refine T.G rfl ?_ | refine J.G rfl ?_ | refine J.H rfl ?_ | refine T.rd rfl (by decide +kernel) ?_ | fail); conv => whnf)
  refine T.cd rfl (fun h1 => ?_) (fun h1 => ?_)
  · have h1 : i < cons.length := by simpa using h1
    have hrow : (cons.map cC)[((i : Nat) : Int).toNat]? = some (cC cons[i]) := by simp [h1]
    have hcb := hc _ (List.getElem_mem h1)
    have hin := hN _ (List.getElem_mem h1)
    have hus := muses_spec cons[i] hcb
    rw [List.drop_eq_getElem_cons h1] at hR ht
    rw [begunGo] at hR
    simp only [List.map_cons, List.sum_cons] at ht
    generalize cons[i] = c at *
    generalize usesR c = vs at *
    repeat' ((first | refine T.G rfl ?_ | refine J.G rfl ?_ | refine J.H rfl ?_ | refine T.rd rfl (by decide +kernel) ?_ | fail); conv => whnf)
    refine J.i rfl rfl rfl rfl rfl rfl rfl rfl rfl (r := cC c) (by omega) hrow rfl ?_
    repeat' ((first | refine T.G rfl ?_ | refine J.G rfl ?_ | refine J.H rfl ?_ | refine T.rd rfl (by decide +kernel) ?_ | fail); conv => whnf)
    refine J.al rfl rfl rfl rfl rfl rfl rfl ?_
    repeat' ((first | refine T.G rfl ?_ | refine J.G rfl ?_ | refine J.H rfl ?_ | refine T.rd rfl (by decide +kernel) ?_ | fail); conv => whnf)
    refine J.w rfl rfl rfl rfl rfl rfl rfl rfl rfl rfl ?_
    repeat' ((first | refine T.G rfl ?_ | refine J.G rfl ?_ | refine J.H rfl ?_ | refine T.rd rfl (by decide +kernel) ?_ | fail); conv => whnf)
    refine J.sub (Rel.deraw (s := 23) (g := 1002) rfl rfl) ?_
    repeat' ((first | refine T.G rfl ?_ | refine J.G rfl ?_ | refine J.H rfl ?_ | refine T.rd rfl (by decide +kernel) ?_ | fail); conv => whnf)
    refine J.mu (i : Int) true rfl rfl rfl rfl rfl rfl rfl rfl rfl rfl rfl (keyI Tryz.underlying3) (fun _ _ _ h => rep_int h) rfl ?_
    repeat' ((first | refine T.G rfl ?_ | refine J.G rfl ?_ | refine J.H rfl ?_ | refine T.rd rfl (by decide +kernel) ?_ | fail); conv => whnf)
    refine J.cc rfl rfl rfl rfl rfl hus.frz rfl rfl ?_
    repeat' ((first | refine T.G rfl ?_ | refine J.G rfl ?_ | refine J.H rfl ?_ | refine T.rd rfl (by decide +kernel) ?_ | fail); conv => whnf)
    generalize hu1 : usesAdd u i vs = u1 at hR
    generalize hrest : ((cons.drop (i + 1)).map fun c => (usesR c).length).sum = rest at ht
    refine T.canon (keep := [3, 4, 13, 14, 15, 26, 27, 28, 1001, 1002, 1003, 1004]) (os := [3, 1002, 1003, 1004]) rfl (T.ind (fun x : Nat × Uses × Value × FamL => ⟨[(3, .optr 0 0 0 0), (4, .val true (.int .i64 i)), (13, .val true (consPV cons)), (14, .val true (.int .i64 (cons.map cC).length)), (15, .val true (.int .i64 i)), (26, .val true (ints vs)), (27, .val true (.int .i64 (vs.map cI).length)), (28, .val true (.int .i64 x.1)), (1001, .eq uq 0), (1002, .eq ua 1), (1003, .eq uu 2), (1004, .eq x.2.2.1 3)], [(0, some (boxQ (cons.map cC) ua uu)), (1, some (mpS (upA o (i : Int) true))), (2, some (mpR x.2.1 x.2.2.2)), (3, some (.fam 3 1 true x.2.2.2))], 4⟩)
      (fun x => x.1 ≤ vs.length ∧ usesAdd x.2.1 i (vs.drop x.1) = u1 ∧ ∃ t, UsOk N t x.2.1 x.2.2.2 ∧ t + (vs.length - x.1) + rest ≤ M) (fun x => vs.length - x.1) (0, u, U, L) ⟨by simp, hu1, t, hu, by simp; omega⟩ (fun _ _ h => h) ?_)
    rintro ⟨j, u, U, L⟩ ⟨hj, hu1, t, hu, ht⟩ ih2
    simp only at hj hu1 hu ht
    dsimp only
    repeat' ((first | refine T.G rfl ?_ | refine J.G rfl ?_ | refine J.H rfl ?_ | refine T.rd rfl (by decide +kernel) ?_ | fail); conv => whnf)
    refine T.cd rfl (fun h2 => ?_) (fun h2 => ?_)
    · have h2 : j < vs.length := by simpa using h2
      have hv := hin _ (List.getElem_mem h2)
      have hvr : (vs.map cI)[((j : Nat) : Int).toNat]? = some (cI vs[j]) := row_i h2
      rw [List.drop_eq_getElem_cons h2] at hu1
      generalize vs[j] = v at *
      obtain ⟨uk, hk, hfv⟩ := hu.at hv.2
      have ev : ((v.toNat : Nat) : Int) = v := by omega
      rw [ev] at hk hfv
      have hpu := fun u' => hu.put (i := (i : Int)) hv.1 hv.2 u'
      have hkl : ((lkA u v).getD []).length ≤ t := by
        cases hc : lkA u v with
        | none => simp
        | some l => exact hu.len _ (lk_mem hc)
      have hval : ((lkA (u.map fun p => (p.1, fvL L p.1)) v).map fun x => PV.raw x) = some (.raw uk) ∨ (lkA (u.map fun p => (p.1, fvL L p.1)) v = none ∧ nilS = uk) := by
        rw [lk_mapv]
        cases hc : lkA u v with
        | some l => exact .inl (by simp [hfv])
        | none =>
          refine .inr ⟨rfl, ?_⟩
          have := hu.nil v.toNat (by rw [ev]; exact hc)
          rw [List.getD_eq_getElem?_getD, hk] at this
          exact this.symm
      generalize hold : ((lkA u v).getD [] : List Int) = old at *
      repeat' ((first | refine T.G rfl ?_ | refine J.G rfl ?_ | refine J.H rfl ?_ | refine T.rd rfl (by decide +kernel) ?_ | fail); conv => whnf)
      refine J.i rfl rfl rfl rfl rfl rfl rfl rfl rfl (r := cI v) (by omega) hvr rfl ?_
      repeat' ((first | refine T.G rfl ?_ | refine J.G rfl ?_ | refine J.H rfl ?_); conv => whnf)
      refine T.sub (fun a w h => Rel.split 1005 v.toNat (q := 3) rfl rfl hk h) ?_
      refine T.rdw 14 rfl (by kernel_rfl) rfl ?_
      iterate 8 refine J.H rfl ?_
      refine J.lr 1003 (q := 2) (u := uu) rfl rfl rfl rfl rfl rfl rfl rfl rfl ?_
      refine J.H rfl ?_
      refine J.lm 1005 v rfl rfl rfl rfl rfl rfl rfl rfl rfl zeroL (keyI Tryz.underlying3) (fun _ _ _ h => rep_int h) hval rfl rfl ?_
      refine J.H rfl ?_
      refine J.bv rfl rfl rfl rfl rfl rfl rfl rfl rfl rfl rfl rfl ?_
      refine J.ad rfl rfl rfl rfl rfl rfl rfl rfl rfl rfl rfl rfl rfl rfl rfl rfl rfl rfl (one_len rfl) (by show (List.length _ + 1) * 8 ≤ _; simp; omega) ?_
      refine J.nil ⟨rfl, ?_⟩
      refine J.name 1006 (s := 45) rfl rfl rfl fun u' => ?_
      refine J.sub (Rel.raw (s := 45) (g := 1006) rfl (.inl rfl) rfl rfl rfl) ?_
      refine J.sub (Rel.deraw (s := 35) (g := 1003) rfl rfl) ?_
      refine J.mu v u' rfl rfl rfl rfl rfl rfl rfl rfl rfl rfl rfl (keyI Tryz.underlying3) (fun _ _ _ h => rep_int h) rfl ?_
      refine J.sub (fun a w h => Rel.join v.toNat (g := 1006) (q := 5) (n := 6) (rows := (old ++ [(i : Int)]).map cI) rfl (by rw [List.map_append]; rfl) rfl rfl h) ?_
      refine J.nil ?_
      refine T.nameO 1004 7 rfl rfl fun U3 => ?_
      repeat' ((first | refine T.G rfl ?_ | refine J.G rfl ?_ | refine J.H rfl ?_ | refine T.rd rfl (by decide +kernel) ?_ | fail); conv => whnf)
      rw [wrap1 (l := vs.length) h2 (by omega), List.set_set, (hpu u').2]
      have hih := ih2 (j + 1, upA u v (old ++ [(i : Int)]), U3, L.set v.toNat (u', (old ++ [(i : Int)]).map cI)) ⟨by omega, by rw [← hu1, ← hold]; rfl, t + 1, (hpu u').1, by show t + 1 + (vs.length - (j + 1)) + rest ≤ M; omega⟩ (by show _ - _ < _ - _; omega)
      exact T.canon (keep := [3, 4, 13, 14, 15, 26, 27, 28, 1001, 1002, 1003, 1004]) (os := [3, 1002, 1003, 1004]) rfl hih
    · have h2 : j = vs.length := by simp at h2; omega
      subst h2
      rw [List.drop_length] at hu1
      obtain rfl : u = u1 := hu1
      repeat' ((first | refine T.G rfl ?_ | refine J.G rfl ?_ | refine J.H rfl ?_ | refine T.rd rfl (by decide +kernel) ?_ | fail); conv => whnf)
      rw [wrap1 (l := cons.length) h1 (by omega)]
      have hih := ih (i + 1, upA o (i : Int) true, u, U, L) ⟨by omega, hR, t, hu, by show t + ((cons.drop (i + 1)).map fun c => (usesR c).length).sum ≤ M; omega⟩ (by show _ - _ < _ - _; omega)
      exact T.canon (keep := [3, 13, 14, 15, 1001, 1002, 1003, 1004]) (os := [3, 1002, 1003, 1004]) rfl hih
  · have h1 : i = cons.length := by simp at h1; omega
    subst h1
    rw [List.drop_length, begunGo] at hR
    subst hR
    have hin : ∀ p ∈ u.map fun p => (Value.int .i64 p.1, fvL L p.1, p.2.map cI), p.2 ∈ L := by
      intro p hp
      obtain ⟨q, hq, rfl⟩ := List.mem_map.1 hp
      have hks := hu.ks q hq
      obtain ⟨v, h1, h2⟩ := hu.at hks.2
      have ev : ((q.1.toNat : Nat) : Int) = q.1 := by omega
      rw [ev] at h1 h2
      have hlk : lkA u q.1 = some q.2 := by
        obtain ⟨i, hi⟩ := List.getElem?_of_mem hq
        exact lk_of_mem hu.nod hq
      rw [hlk] at h1
      simp only [h2]
      exact List.mem_of_getElem? h1
    have hmp : mpR u L = .mp true none ((u.map fun p => (Value.int .i64 p.1, fvL L p.1, p.2.map cI)).map fun p => (p.1, PV.raw p.2.1)) := by
      unfold mpR
      rw [List.map_map, List.map_map]; rfl
    refine T.sub (fun a w h => Rel.meltM (qc := 2) (q := 3) (e := 3) (sz := 1) (frc := true) (fr := true) (b := none) (L := L) (u.map fun p => (Value.int .i64 p.1, fvL L p.1, p.2.map cI)) hin (fun b h => by obtain ⟨u, hu, _⟩ := h; cases hu) (by exact congrArg some hmp) rfl rfl h) ?_
    refine T.sub (Rel.raw (s := 3) (g := 1001) rfl (.inr rfl) rfl rfl rfl) ?_
    rw [show ((u.map fun p => (Value.int .i64 p.1, fvL L p.1, p.2.map cI)).map fun p => (p.1, PV.sl p.2.2)) = u.map fun p => (Value.int .i64 p.1, ints p.2) from by rw [List.map_map]; rfl]
    repeat' ((first | refine T.G rfl ?_ | refine J.G rfl ?_ | refine J.H rfl ?_ | refine T.rd rfl (by decide +kernel) ?_ | fail); conv => whnf)
    exact ⟨[], [0, 1, 2], [uq, ua, uu], trivial, ⟨rfl, rfl, rfl, rfl, rfl, rfl, rfl, rfl, rfl, trivial⟩, rfl, .v rfl rfl rfl (fun _ => rfl) .nil⟩
end Go.Proofs.YtlcobmehnaeebaaGreat
namespace Go.Proofs.YtlcobmehnaeebaaGreat
open Go Go.RowKit
set_option linter.unusedVariables false
set_option linter.unusedSimpArgs false

def openB (o : Seen) (j : Nat) : Bool := (lkA o (j : Int)).getD false
theorem openAll_lk (c : Int) : ∀ (l : List Int) (o : Seen), lkA (openAll l o) c = if c ∈ l then some true else lkA o c
  | [], o => by simp [openAll]
  | x :: l, o => by
    have := openAll_lk c l (upA o x true)
    rw [show openAll (x :: l) o = openAll l (upA o x true) from rfl, this, lk_up]
    by_cases h : c ∈ l
    · rw [if_pos h, if_pos (.tail _ h)]
    · rw [if_neg h]
      by_cases e : x = c
      · rw [if_pos e, if_pos (by rw [e]; exact .head _)]
      · rw [if_neg e, if_neg (fun hm => (List.mem_cons.1 hm).elim (fun h2 => e h2.symm) h)]
theorem openAll_nod : ∀ (l : List Int) (o : Seen), (o.map (·.1)).Nodup → ((openAll l o).map (·.1)).Nodup
  | [], o, h => h
  | x :: l, o, h => openAll_nod l (upA o x true) (up_keys o h)
theorem dl_cons {β : Type} (p : Int × β) (l : List (Int × β)) (a : Int) : dlA (p :: l) a = if p.1 = a then l else p :: dlA l a := by
  unfold dlA
  rw [fi_cons]
  by_cases h : p.1 = a
  · rw [if_pos h, if_pos h]; rfl
  · rw [if_neg h, if_neg h]
    cases fiA l a <;> simp
theorem dl_sub {β : Type} (a : Int) : ∀ l : List (Int × β), (dlA l a).Sublist l
  | [] => by simp [dlA, fiA]
  | p :: l => by
    rw [dl_cons]
    split
    · exact List.sublist_cons_self _ _
    · exact (dl_sub a l).cons_cons p
theorem dl_lk {β : Type} (a c : Int) : ∀ l : List (Int × β), (l.map (·.1)).Nodup → lkA (dlA l a) c = if a = c then none else lkA l c
  | [], _ => by simp [dlA, fiA, lk_nil]
  | p :: l, hn => by
    have hn2 := List.nodup_cons.1 hn
    have hno : p.1 = c → lkA l c = none := fun e => by
      cases h : lkA l c with
      | none => rfl
      | some b => exact absurd (List.mem_map.2 ⟨(c, b), lk_mem h, e.symm⟩) hn2.1
    rw [dl_cons]
    by_cases h : p.1 = a
    · rw [if_pos h, lkA_cons]
      by_cases e : a = c
      · rw [if_pos e]; exact hno (h.trans e)
      · rw [if_neg e, if_neg (fun h2 => e (h.symm.trans h2))]
    · rw [if_neg h, lkA_cons, lkA_cons, dl_lk a c l hn2.2]
      by_cases e : p.1 = c
      · rw [if_pos e, if_pos e, if_neg (fun h2 => h (e.trans h2.symm))]
      · rw [if_neg e, if_neg e]
theorem usesAdd_lk (i c : Int) : ∀ (vs : List Int) (u : Uses), vs.Nodup → (lkA (usesAdd u i vs) c).getD [] = if c ∈ vs then (lkA u c).getD [] ++ [i] else (lkA u c).getD []
  | [], u, _ => by simp [usesAdd]
  | v :: vs, u, hn => by
    have hn2 := List.nodup_cons.1 hn
    rw [show usesAdd u i (v :: vs) = usesAdd (upA u v ((lkA u v).getD [] ++ [i])) i vs from rfl, usesAdd_lk i c vs _ hn2.2, lk_up]
    by_cases e : v = c
    · subst e
      rw [if_neg hn2.1, if_pos rfl, if_pos (.head _)]; rfl
    · rw [if_neg e]
      by_cases h : c ∈ vs
      · rw [if_pos h, if_pos (.tail _ h)]
      · rw [if_neg h, if_neg (fun hm => (List.mem_cons.1 hm).elim (fun h2 => e h2.symm) h)]
theorem begun_lk : ∀ (cons : List Con) (i : Nat) (o : Seen) (u : Uses), (o.map (·.1)).Nodup →
    (((begunGo i cons o u).1).map (·.1)).Nodup ∧ (∀ j, openB (begunGo i cons o u).1 j = if i ≤ j ∧ j < i + cons.length then true else openB o j) ∧
    ∀ (v x : Int), x ∈ (lkA (begunGo i cons o u).2 v).getD [] ↔ x ∈ (lkA u v).getD [] ∨ ∃ k c, cons[k]? = some c ∧ v ∈ usesR c ∧ x = ((i + k : Nat) : Int)
  | [], i, o, u, h => ⟨h, fun j => by rw [if_neg (by simp)]; rfl, fun v x => by simp [begunGo]⟩
  | c :: cons, i, o, u, h => by
    obtain ⟨h1, h2, h3⟩ := begun_lk cons (i + 1) (upA o i true) (usesAdd u i (usesR c)) (up_keys o h)
    refine ⟨h1, fun j => ?_, fun v x => ?_⟩
    · have e1 : openB (upA o i true) j = if i = j then true else openB o j := by
        unfold openB
        rw [lk_up]
        by_cases e : i = j
        · rw [if_pos e, if_pos (by omega)]; rfl
        · rw [if_neg e, if_neg (by omega)]
      rw [begunGo, h2 j, e1]
      by_cases e : i = j
      · rw [if_pos e, ite_self, if_pos (by simp; omega)]
      · rw [if_neg e]
        by_cases hj : i + 1 ≤ j ∧ j < i + 1 + cons.length
        · rw [if_pos hj, if_pos (by simp; omega)]
        · rw [if_neg hj, if_neg (by simp; omega)]
    · rw [begunGo, h3 v x, usesAdd_lk _ _ (usesR c) u (up_nodup (sortU_up _))]
      constructor
      · rintro (hx | ⟨k, c', h4, h5, h6⟩)
        · split at hx
          · rename_i hv
            rcases List.mem_append.1 hx with hx | hx
            · exact .inl hx
            · exact .inr ⟨0, c, rfl, hv, by rw [List.mem_singleton.1 hx]; rfl⟩
          · exact .inl hx
        · exact .inr ⟨k + 1, c', by simpa using h4, h5, by rw [h6]; congr 1; omega⟩
      · rintro (hx | ⟨k, c', h4, h5, h6⟩)
        · refine .inl ?_
          split
          · exact List.mem_append_left _ hx
          · exact hx
        · cases k with
          | zero =>
            simp at h4
            subst h4
            rw [if_pos h5]
            exact .inl (List.mem_append_right _ (by rw [h6]; exact .head _))
          | succ k => exact .inr ⟨k, c', by simpa using h4, h5, by rw [h6]; congr 1; omega⟩
theorem usesAdd_len {t : Nat} (i : Int) : ∀ (vs : List Int) (u : Uses), (∀ p ∈ u, p.2.length ≤ t) → ∀ p ∈ usesAdd u i vs, p.2.length ≤ t + vs.length
  | [], u, h, p, hp => h p hp
  | v :: vs, u, h, p, hp => by
    have := usesAdd_len (t := t + 1) i vs (upA u v ((lkA u v).getD [] ++ [i])) (fun q hq => by
      rcases mem_upA hq with hq | rfl
      · have := h q hq; omega
      · have : ((lkA u v).getD []).length ≤ t := by
          cases hc : lkA u v with
          | none => simp
          | some l => exact h _ (lk_mem hc)
        simp; omega) p hp
    simp; omega
theorem begun_len : ∀ (cons : List Con) (i t : Nat) (o : Seen) (u : Uses), (∀ p ∈ u, p.2.length ≤ t) → ∀ p ∈ (begunGo i cons o u).2, p.2.length ≤ t + (cons.map fun c => (usesR c).length).sum
  | [], i, t, o, u, h, p, hp => by simpa [begunGo] using h p hp
  | c :: cons, i, t, o, u, h, p, hp => by
    have := begun_len cons (i + 1) (t + (usesR c).length) (upA o i true) (usesAdd u i (usesR c)) (usesAdd_len _ _ _ h) p hp
    simp only [List.map_cons, List.sum_cons]
    omega
def AllEnds (cons : List Con) (d : Doms) (R : Option Doms) : Prop := Ends leD (GoodD d.length) oneO cons d R
open Classical in
noncomputable def allO (cons : List Con) (d : Doms) : Option Doms := if h : ∃ R : Option Doms, AllEnds cons d R then h.choose else none
theorem allO_eq {cons : List Con} {d : Doms} {R : Option Doms} (h : AllEnds cons d R) : R = allO cons d := by
  have hex : ∃ R : Option Doms, AllEnds cons d R := ⟨R, h⟩
  unfold allO
  rw [dif_pos hex]
  exact Ends.one (orderD d.length) (fun _ => Iff.rfl) h hex.choose_spec
theorem allO_empty {cons : List Con} {d : Doms} (h : [] ∈ d) : allO cons d = none := by
  refine (allO_eq (R := none) ?_).symm
  rintro ⟨e, ge, hle, _⟩
  obtain ⟨j, hj⟩ := List.getElem?_of_mem h
  have hjl := (List.getElem?_eq_some_iff.1 hj).1
  obtain ⟨x, hx⟩ := ge.ne (v := (j : Int)) (by simpa using hjl)
  have := hle.2 j x (by omega) hx
  unfold domAt at this
  rw [List.getD_eq_getElem?_getD, Int.toNat_natCast, hj] at this
  cases this
theorem leD.sub {n : Nat} {a b : Doms} (ga : GoodD n a) (gb : GoodD n b) (h : leD a b) : Sub a b := by
  refine ⟨h.1, fun i x y hx hy v hv => ?_⟩
  have h1 : domAt a (i : Int) = x := by
    unfold domAt; rw [List.getD_eq_getElem?_getD, Int.toNat_natCast, hx]; rfl
  have h2 : domAt b (i : Int) = y := by
    unfold domAt; rw [List.getD_eq_getElem?_getD, Int.toNat_natCast, hy]; rfl
  have := h.2 (i : Int) v (by omega) (by rw [h1]; exact hv)
  rwa [h2] at this
theorem weight_le {n : Nat} {a b : Doms} (ga : GoodD n a) (gb : GoodD n b) (h : leD a b) : weight a ≤ weight b ∧ (a ≠ b → weight a < weight b) := weight_lt (leD.sub ga gb h) ga.few.fine gb.few.fine
def cntO (m : Nat) (o : Seen) : Nat := ((List.range m).filter (openB o)).length
theorem cntO_le (m : Nat) (o : Seen) : cntO m o ≤ m := by
  have := List.length_filter_le (openB o) (List.range m)
  simpa [cntO] using this
structure QInv (cons : List Con) (d : Doms) (x : Doms × Seen) : Prop where
  come : Come leD (GoodD d.length) oneO cons d x.1
  nod : (x.2.map (·.1)).Nodup
  shut : ∀ (j : Nat) c, cons[j]? = some c → openB x.2 j = false → oneO c x.1 = some x.1
theorem qinv_begin {cons : List Con} {d : Doms} (gd : GoodD d.length d) : QInv cons d (d, (begunP cons).1) := by
  obtain ⟨h1, h2, _⟩ := begun_lk cons 0 [] [] .nil
  refine ⟨Come.refl (orderD _) gd, h1, fun j c hj hb => ?_⟩
  have hjl := (List.getElem?_eq_some_iff.1 hj).1
  have := h2 j
  rw [if_pos (by omega)] at this
  rw [show openB (d, (begunP cons).1).2 j = openB (begunGo 0 cons [] []).1 j from rfl, this] at hb
  cases hb
theorem qinv_end {cons : List Con} {d : Doms} {x : Doms × Seen} (h : QInv cons d x) (hn : nextP cons.length x.2 = none) : AllEnds cons d (some x.1) := by
  refine ⟨h.come, fun c hc => ?_⟩
  obtain ⟨j, hj⟩ := List.getElem?_of_mem hc
  have hjl := (List.getElem?_eq_some_iff.1 hj).1
  have := List.find?_eq_none.1 hn j (List.mem_range.2 hjl)
  exact h.shut j c hj (by simpa [openB] using this)
theorem qinv_step {cons : List Con} {d : Doms} {P : Con → (Int → Int) → Prop} (hs : ∀ c ∈ cons, StepOK d.length (usesR c) (P c) (oneO c)) {x : Doms × Seen} {i : Nat} {c : Con} {now : Doms} {o2 : Seen} (h : QInv cons d x) (hi : nextP cons.length x.2 = some i) (hc : cons[i]? = some c) (hnow : oneO c x.1 = some now)
    (ho : ∀ j, openB o2 j = true ↔ openB (dlA x.2 (i : Int)) j = true ∨ ∃ v c', v < x.1.length ∧ x.1[v]? ≠ now[v]? ∧ cons[j]? = some c' ∧ (v : Int) ∈ usesR c') (hn2 : (o2.map (·.1)).Nodup) :
    QInv cons d (now, o2) ∧ weight now * (cons.length + 1) + cntO cons.length o2 < weight x.1 * (cons.length + 1) + cntO cons.length x.2 := by
  have O := orderD d.length
  have hcm := List.mem_of_getElem? hc
  have hst := hs c hcm
  have gx := h.come.fine
  have hcome := h.come.step O hcm hst.takes hnow
  have gn := hcome.fine
  have hlo : x.1.length = now.length := by rw [gx.len, gn.len]
  have hle := (hst.takes.less _ _ gx hnow).2
  have hopen : openB x.2 i = true ∧ i < cons.length := by
    unfold nextP at hi
    rw [List.find?_range_eq_some] at hi
    exact ⟨hi.1, by simpa using hi.2.1⟩
  have hd : ∀ j, openB (dlA x.2 (i : Int)) j = if i = j then false else openB x.2 j := fun j => by
    unfold openB
    rw [dl_lk _ _ _ h.nod]
    by_cases e : i = j
    · subst e; rw [if_pos rfl, if_pos rfl]; rfl
    · rw [if_neg (by omega), if_neg e]
  have same : ∀ j c', cons[j]? = some c' → openB o2 j = false → ∀ u ∈ usesR c', domAt x.1 u = domAt now u := fun j c' hj hb u hu => by
    have hin := (hs c' (List.mem_of_getElem? hj)).in' u hu
    have hne : ¬ (x.1[u.toNat]? ≠ now[u.toNat]?) := fun hne => by
      have := (ho j).2 (.inr ⟨u.toNat, c', by rw [gx.len]; exact hin.2, hne, hj, by rw [show ((u.toNat : Nat) : Int) = u by omega]; exact hu⟩)
      rw [hb] at this; cases this
    have e := Classical.not_not.1 hne
    unfold domAt
    rw [List.getD_eq_getElem?_getD, List.getD_eq_getElem?_getD, e]
  refine ⟨⟨hcome, hn2, fun j c' hj hb => ?_⟩, ?_⟩
  · have hbd : openB (dlA x.2 (i : Int)) j = false := by
      cases hh : openB (dlA x.2 (i : Int)) j with
      | false => rfl
      | true => rw [(ho j).2 (.inl hh)] at hb; cases hb
    rw [hd j] at hbd
    by_cases e : i = j
    · subst e
      rw [hc] at hj
      obtain rfl := Option.some.inj hj
      have hsm := same i c hc hb
      have e : now = x.1 := doms_ext gn gx fun v y h0 => by
        by_cases hv : v ∈ usesR c
        · rw [hsm v hv]
        · rw [hst.off x.1 now gx hnow v h0 hv]
      show oneO c now = some now
      rw [e, hnow, e]
    · rw [if_neg e] at hbd
      exact (hs c' (List.mem_of_getElem? hj)).stays x.1 now gx gn (h.shut j c' hj hbd) (same j c' hj hb)
  · have hw := weight_le gn gx hle
    by_cases e : now = x.1
    · subst e
      have hcnt : cntO cons.length o2 < cntO cons.length x.2 := by
        refine filter_lt (p := openB x.2) (q := openB o2) (List.range cons.length) i (fun j hj => ?_) (List.mem_range.2 hopen.2) hopen.1 ?_
        · rcases (ho j).1 hj with h1 | ⟨v, _, _, hne, _⟩
          · rw [hd j] at h1
            split at h1
            · cases h1
            · exact h1
          · exact absurd rfl hne
        · cases hb : openB o2 i with
          | false => rfl
          | true =>
            rcases (ho i).1 hb with h1 | ⟨v, _, _, hne, _⟩
            · rw [hd i, if_pos rfl] at h1; cases h1
            · exact absurd rfl hne
      omega
    · have h1 := hw.2 e
      have h2 := cntO_le cons.length o2
      have h3 : weight now * (cons.length + 1) + (cons.length + 1) ≤ weight x.1 * (cons.length + 1) := by
        have := Nat.mul_le_mul_right (cons.length + 1) h1
        rw [Nat.succ_mul] at this
        exact this
      omega
end Go.Proofs.YtlcobmehnaeebaaGreat
namespace Go.Proofs.YtlcobmehnaeebaaGreat
open Go Go.RowKit
set_option linter.unusedVariables false
set_option linter.unusedSimpArgs false
set_option maxRecDepth 8000

def oneV (x : List (Int × Int)) : Bool := decide ((vals x).length = 1)
def solvedO (d : Doms) : Option (List Int) := if d.all oneV = true then some (d.map leastR) else none
def numsRes (R : Option (List Int)) : List RV := [.own 3 1 ((R.getD []).map cI), .val (.bool R.isSome)]
theorem solvedO_no {pre post : Doms} {x : List (Int × Int)} (h : oneV x = false) : solvedO (pre ++ x :: post) = none := by
  unfold solvedO
  rw [if_neg]
  simp [h]
theorem fsolved_spec (d : Doms) (hd : d.length * 24 ≤ 140737488355328) (hf : ∀ x ∈ d, Fine x) : Spec Tryz.prog 18 false [doms d] (numsRes (solvedO d)) := by
  refine Spec.body Tryz.func18 rfl rfl rfl fun w0 Z0 => ?_
  generalize hR : solvedO d = R
  repeat' ((first | refine T.G rfl ?_ | refine J.G rfl ?_ | refine J.H rfl ?_ | refine T.rd rfl (by decide +kernel) ?_ | fail); conv => whnf)
  refine J.bo rfl rfl rfl rfl rfl rfl rfl rfl rfl rfl rfl rfl ?_
  repeat' ((first | refine T.G rfl ?_ | refine J.G rfl ?_ | refine J.H rfl ?_ | refine T.rd rfl (by decide +kernel) ?_ | fail); conv => whnf)
  refine T.canon (keep := [4, 10, 11, 12]) (os := [4]) rfl (T.listI d (fun pre => pre.all oneV = true) (fun n pre post => ⟨[(4, .ref 0), (10, .val false (doms d)), (11, .val true (.int .i64 (d.map cD).length)), (12, .val true (.int .i64 n))], [(0, some (.sl 3 1 true ((pre.map leastR).map cI)))], 1⟩) (fun _ _ h => h) (by simp) ?_ ?_)
  · rintro n pre x post h hn hi ih
    have hlt := at_lt h hn
    have hfx := hf x (by rw [h]; simp)
    have hxl := hfx.len
    have hs := sizeW_eq hfx
    repeat' ((first | refine T.G rfl ?_ | refine J.G rfl ?_ | refine J.H rfl ?_ | refine T.rd rfl (by decide +kernel) ?_ | fail); conv => whnf)
    refine T.ct2 rfl (lt_at h hn) ?_
    repeat' ((first | refine T.G rfl ?_ | refine J.G rfl ?_ | refine J.H rfl ?_ | refine T.rd rfl (by decide +kernel) ?_ | fail); conv => whnf)
    refine J.i rfl rfl rfl rfl rfl rfl rfl rfl rfl (r := cD x) (by omega) (row_at h hn) rfl ?_
    repeat' ((first | refine T.G rfl ?_ | refine J.G rfl ?_ | refine J.H rfl ?_ | refine T.rd rfl (by decide +kernel) ?_ | fail); conv => whnf)
    refine J.cc rfl rfl rfl rfl rfl (least_spec x) rfl rfl ?_
    repeat' ((first | refine T.G rfl ?_ | refine J.G rfl ?_ | refine J.H rfl ?_ | refine T.rd rfl (by decide +kernel) ?_ | fail); conv => whnf)
    have no : oneV x = false → R = none := fun hx => by rw [← hR, h]; exact solvedO_no hx
    cases hx : x.isEmpty with
    | true =>
      have hxe : x = [] := by simpa using hx
      have hR2 := no (by rw [hxe]; rfl)
      subst hR2
      repeat' ((first | refine T.G rfl ?_ | refine J.G rfl ?_ | refine J.H rfl ?_ | refine T.rd rfl (by decide +kernel) ?_ | fail); conv => whnf)
      refine T.ct rfl ?_
      repeat' ((first | refine T.G rfl ?_ | refine J.G rfl ?_ | refine J.H rfl ?_ | refine T.rd rfl (by decide +kernel) ?_ | fail); conv => whnf)
      exact ⟨_, .ownN rfl (.v rfl rfl rfl (fun _ => rfl) .nil)⟩
    | false =>
      repeat' ((first | refine T.G rfl ?_ | refine J.G rfl ?_ | refine J.H rfl ?_ | refine T.rd rfl (by decide +kernel) ?_ | fail); conv => whnf)
      refine J.cc rfl rfl rfl rfl rfl (size_spec x (by omega)) rfl rfl ?_
      repeat' ((first | refine T.G rfl ?_ | refine J.G rfl ?_ | refine J.H rfl ?_ | refine T.rd rfl (by decide +kernel) ?_ | fail); conv => whnf)
      refine T.cd rfl (fun h1 => ?_) (fun h1 => ?_)
      · have hR2 := no (decide_eq_false fun e => by
          rw [hs, e] at h1
          exact h1 rfl)
        subst hR2
        repeat' ((first | refine T.G rfl ?_ | refine J.G rfl ?_ | refine J.H rfl ?_ | refine T.rd rfl (by decide +kernel) ?_ | fail); conv => whnf)
        exact ⟨_, .ownN rfl (.v rfl rfl rfl (fun _ => rfl) .nil)⟩
      · have h1 : oneV x = true := decide_eq_true (by
          have : sizeW x = 1 := Classical.not_not.1 h1
          rw [hs] at this; omega)
        repeat' ((first | refine T.G rfl ?_ | refine J.G rfl ?_ | refine J.H rfl ?_ | refine T.rd rfl (by decide +kernel) ?_ | fail); conv => whnf)
        refine J.bv rfl rfl rfl rfl rfl rfl rfl rfl rfl rfl rfl rfl ?_
        refine J.aI rfl rfl rfl rfl rfl rfl rfl rfl rfl rfl rfl rfl rfl rfl rfl rfl rfl rfl rfl (by simp; omega) ?_
        repeat' ((first | refine T.G rfl ?_ | refine J.G rfl ?_ | refine J.H rfl ?_ | refine T.rd rfl (by decide +kernel) ?_ | fail); conv => whnf)
        rw [wrap1 hlt (by omega)]
        have := ih (by simp [hi, h1])
        rw [List.map_append] at this
        exact T.canon (keep := [4, 10, 11, 12]) (os := [4]) rfl this
  · intro hi
    have hR : some (d.map leastR) = R := by rw [← hR, solvedO, if_pos hi]
    subst hR
    repeat' ((first | refine T.G rfl ?_ | refine J.G rfl ?_ | refine J.H rfl ?_ | refine T.rd rfl (by decide +kernel) ?_ | fail); conv => whnf)
    refine T.cf2 rfl lt_end ?_
    repeat' ((first | refine T.G rfl ?_ | refine J.G rfl ?_ | refine J.H rfl ?_ | refine T.rd rfl (by decide +kernel) ?_ | fail); conv => whnf)
    exact ⟨_, .o rfl rfl rfl (fun _ => .inl rfl) (by simp) (.v rfl rfl rfl (fun _ => rfl) .nil)⟩
end Go.Proofs.YtlcobmehnaeebaaGreat
namespace Go.Proofs.YtlcobmehnaeebaaGreat
open Go Go.RowKit
set_option linter.unusedVariables false
set_option linter.unusedSimpArgs false
set_option maxRecDepth 8000

structure ConsOk (d : Doms) (cons : List Con) : Prop where
  con : ∀ c ∈ cons, ConB c
  right : ∀ c ∈ cons, conR d c = 0
  few : cons.length * 128 ≤ 140737488355328
  uses : ((cons.map fun c => (usesR c).length).sum + 1) * 8 ≤ 140737488355328
theorem ConsOk.step {d : Doms} {cons : List Con} (h : ConsOk d cons) (gd : GoodD d.length d) : ∀ c ∈ cons, StepOK d.length (usesR c) (fun g => (c.kind = 4 → 0 ≤ g c.b ∧ g c.b ≤ 1) → holdsR c (tabG d.length g) = true) (oneO c) := fun c hc => one_step gd (h.con c hc) (h.right c hc)
theorem fall_spec (d : Doms) (cons : List Con) (hd : d.length * 24 ≤ 140737488355328) (hx : ∀ x ∈ d, Fine x ∧ (vals x).length ≤ 4096) (hc : ConsOk d cons)
    (hone : ∀ c ∈ cons, ∀ out, GoodD d.length out → leD out d → Spec Tryz.prog 13 false [doms out, .agg (cC c)] (pruneRes (oneO c out))) :
    Spec Tryz.prog 16 false [doms d, consPV cons] (pruneRes (allO cons d)) := by
  refine Spec.body Tryz.func16 rfl rfl rfl fun w0 Z0 => ?_
  generalize hR : allO cons d = R
  repeat' ((first | refine T.G rfl ?_ | refine J.G rfl ?_ | refine J.H rfl ?_ | refine T.rd rfl (by decide +kernel) ?_ | fail); conv => whnf)
  refine T.sub (Rel.own0 (s := 6) 45 1 rfl) ?_
  refine T.canon (keep := [1, 6, 15, 16, 17]) (os := [6]) rfl (T.listI d (fun pre => [] ∉ pre) (fun n pre post => ⟨[(1, .val false (consPV cons)), (6, .ref 0), (15, .val false (doms d)), (16, .val true (.int .i64 (d.map cD).length)), (17, .val true (.int .i64 n))], [(0, some (.sl 45 1 true (pre.map cD)))], 1⟩) (fun _ _ h => h) (by simp) ?_ ?_)
  · rintro n pre x post h hn hi ih
    have hlt := at_lt h hn
    have hxl := (hx x (by rw [h]; simp)).1.len
    repeat' ((first | refine T.G rfl ?_ | refine J.G rfl ?_ | refine J.H rfl ?_ | refine T.rd rfl (by decide +kernel) ?_ | fail); conv => whnf)
    refine T.ct2 rfl (lt_at h hn) ?_
    repeat' ((first | refine T.G rfl ?_ | refine J.G rfl ?_ | refine J.H rfl ?_ | refine T.rd rfl (by decide +kernel) ?_ | fail); conv => whnf)
    refine J.i rfl rfl rfl rfl rfl rfl rfl rfl rfl (r := cD x) (by omega) (row_at h hn) rfl ?_
    repeat' ((first | refine T.G rfl ?_ | refine J.G rfl ?_ | refine J.H rfl ?_ | refine T.rd rfl (by decide +kernel) ?_ | fail); conv => whnf)
    refine T.cd rfl (fun h1 => ?_) (fun h1 => ?_)
    · have hxe : x = [] := by simp at h1; exact h1
      have : R = none := by rw [← hR, allO_empty (by rw [h, hxe]; simp)]
      subst this
      repeat' ((first | refine T.G rfl ?_ | refine J.G rfl ?_ | refine J.H rfl ?_ | refine T.rd rfl (by decide +kernel) ?_ | fail); conv => whnf)
      exact ⟨_, .ownN rfl (.v rfl rfl rfl (fun _ => rfl) .nil)⟩
    · have hxe : x ≠ [] := fun e => h1 (by rw [e]; rfl)
      repeat' ((first | refine T.G rfl ?_ | refine J.G rfl ?_ | refine J.H rfl ?_ | refine T.rd rfl (by decide +kernel) ?_ | fail); conv => whnf)
      refine J.cc rfl rfl rfl rfl rfl (clone_spec x (by omega)).frz rfl rfl ?_
      repeat' ((first | refine T.G rfl ?_ | refine J.G rfl ?_ | refine J.H rfl ?_ | refine T.rd rfl (by decide +kernel) ?_ | fail); conv => whnf)
      refine J.bv rfl rfl rfl rfl rfl rfl rfl rfl rfl rfl rfl rfl ?_
      refine J.aD rfl rfl rfl rfl rfl rfl rfl rfl rfl rfl rfl rfl rfl rfl rfl rfl rfl rfl rfl (by omega) ?_
      repeat' ((first | refine T.G rfl ?_ | refine J.G rfl ?_ | refine J.H rfl ?_ | refine T.rd rfl (by decide +kernel) ?_ | fail); conv => whnf)
      rw [wrap1 hlt (by omega)]
      exact T.canon (keep := [1, 6, 15, 16, 17]) (os := [6]) rfl (ih (by simp [hi, Ne.symm hxe]))
  · intro hne
    have gd : GoodD d.length d := ⟨⟨hd, fun x h => (hx x h).1, fun x h => (hx x h).2⟩, rfl, hne⟩
    have hst := hc.step gd
    repeat' ((first | refine T.G rfl ?_ | refine J.G rfl ?_ | refine J.H rfl ?_ | refine T.rd rfl (by decide +kernel) ?_ | fail); conv => whnf)
    refine T.cf2 rfl lt_end ?_
    repeat' ((first | refine T.G rfl ?_ | refine J.G rfl ?_ | refine J.H rfl ?_ | refine T.rd rfl (by decide +kernel) ?_ | fail); conv => whnf)
    have hbg := begun_spec cons d.length hc.con (fun c hcc => (right_split (hc.con c hcc) (hc.right c hcc)).2.2.2) hc.few hc.uses
    refine J.co (qs := []) (cs2 := []) false [] [1001, 1002, 1003] rfl rfl rfl rfl rfl rfl hbg trivial rfl rfl rfl rfl rfl rfl rfl fun ns hns => ?_
    obtain ⟨uq, ua, uu, rfl⟩ : ∃ uq ua uu, ns = [uq, ua, uu] := by
      match ns, hns with
      | [a, b, c], _ => exact ⟨a, b, c, rfl⟩
    repeat' ((first | refine T.G rfl ?_ | refine J.G rfl ?_ | refine J.H rfl ?_ | refine T.rd rfl (by decide +kernel) ?_ | fail); conv => whnf)
    have hlen : ∀ p ∈ (begunP cons).2, p.2.length * 8 ≤ 140737488355328 := fun p hp => by
      have := begun_len cons 0 0 [] [] (by simp) p hp
      have := hc.uses
      omega
    have hlk : ∀ (v x : Int), x ∈ (lkA (begunP cons).2 v).getD [] ↔ ∃ (k : Nat) (c : Con), cons[k]? = some c ∧ v ∈ usesR c ∧ x = (k : Int) := fun v x => by
      have := (begun_lk cons 0 [] [] .nil).2.2 v x
      rw [show (begunP cons).2 = (begunGo 0 cons [] []).2 from rfl, this]
      simp [lk_nil]
    have hqb := qinv_begin (cons := cons) gd
    generalize (begunP cons).1 = o0 at *
    generalize (begunP cons).2 = us at *
    refine T.canon (keep := [1, 6, 9, 1001, 1002, 1003]) (os := [6, 1001, 1002, 1003]) rfl (T.ind (fun x : Doms × Seen => ⟨[(1, .val false (consPV cons)), (6, .ref 0), (9, .val true (.raw uq)), (1001, .eq uq 1), (1002, .eq ua 2), (1003, .eq uu 3)], [(0, some (.sl 45 1 true (x.1.map cD))), (1, some ((boxQ (cons.map cC) ua uu).reg false)), (2, some ((mpS x.2).reg false)), (3, some ((mpU us).reg false))], 4⟩)
      (fun x => QInv cons d x) (fun x => weight x.1 * (cons.length + 1) + cntO cons.length x.2) (d, o0) hqb (fun _ _ h => h) ?_)
    rintro ⟨out, o⟩ hq ih
    dsimp only
    have gx : GoodD d.length out := hq.come.fine
    have hnx := next_spec (cons.map cC) o uq ua uu (by simp; have := hc.few; omega)
    rw [List.length_map] at hnx
    repeat' ((first | refine T.G rfl ?_ | refine J.G rfl ?_ | refine J.H rfl ?_ | refine T.rd rfl (by decide +kernel) ?_ | fail); conv => whnf)
    refine J.co (qs := [1, 2]) (cs2 := [(boxQ (cons.map cC) ua uu).reg false, (mpS o).reg false]) false [1001, 1002] [] rfl rfl rfl rfl rfl rfl hnx ⟨rfl, rfl, rfl, rfl, trivial⟩ rfl rfl rfl rfl rfl rfl rfl fun ns hns => ?_
    obtain rfl : ns = [] := List.eq_nil_of_length_eq_zero hns
    cases hn : nextP cons.length o with
    | none =>
      have hfin := allO_eq (qinv_end hq hn)
      rw [hR] at hfin
      subst hfin
      repeat' ((first | refine T.G rfl ?_ | refine J.G rfl ?_ | refine J.H rfl ?_ | refine T.rd rfl (by decide +kernel) ?_ | fail); conv => whnf)
      refine T.ct rfl ?_
      repeat' ((first | refine T.G rfl ?_ | refine J.G rfl ?_ | refine J.H rfl ?_ | refine T.rd rfl (by decide +kernel) ?_ | fail); conv => whnf)
      exact ⟨_, .o rfl rfl rfl (fun _ => .inl rfl) (by simp) (.v rfl rfl rfl (fun _ => rfl) .nil)⟩
    | some i =>
      have hil : i < cons.length := by
        unfold nextP at hn
        rw [List.find?_range_eq_some] at hn
        simpa using hn.2.1
      have hci : cons[i]? = some cons[i] := List.getElem?_eq_getElem hil
      have hcm := List.getElem_mem hil
      have hrow : (cons.map cC)[((i : Nat) : Int).toNat]? = some (cC cons[i]) := by simp [hil]
      have hsp := hone _ hcm out gx hq.come.less
      have hstc := hst _ hcm
      have hqs := fun now o2 => qinv_step (o2 := o2) (now := now) hst hq hn hci
      generalize cons[i] = c at *
      repeat' ((first | refine T.G rfl ?_ | refine J.G rfl ?_ | refine J.H rfl ?_ | refine T.rd rfl (by decide +kernel) ?_ | fail); conv => whnf)
      refine T.cf rfl ?_
      repeat' ((first | refine T.G rfl ?_ | refine J.G rfl ?_ | refine J.H rfl ?_ | refine T.rd rfl (by decide +kernel) ?_ | fail); conv => whnf)
      refine J.i rfl rfl rfl rfl rfl rfl rfl rfl rfl (r := cC c) (by simp) hrow rfl ?_
      repeat' ((first | refine T.G rfl ?_ | refine J.G rfl ?_ | refine J.H rfl ?_ | refine T.rd rfl (by decide +kernel) ?_ | fail); conv => whnf)
      refine J.cc rfl rfl rfl rfl rfl hsp rfl rfl ?_
      cases hnow : oneO c out with
      | none =>
        have hfin := allO_eq (d := d) (R := none) (show AllEnds cons d none from hq.come.none hcm hstc.takes hnow)
        rw [hR] at hfin
        subst hfin
        repeat' ((first | refine T.G rfl ?_ | refine J.G rfl ?_ | refine J.H rfl ?_ | refine T.rd rfl (by decide +kernel) ?_ | fail); conv => whnf)
        refine T.ct rfl ?_
        repeat' ((first | refine T.G rfl ?_ | refine J.G rfl ?_ | refine J.H rfl ?_ | refine T.rd rfl (by decide +kernel) ?_ | fail); conv => whnf)
        exact ⟨_, .ownN rfl (.v rfl rfl rfl (fun _ => rfl) .nil)⟩
      | some now =>
        have hqs := fun o2 => hqs now o2 hnow
        have gn := (hstc.takes.less _ _ gx hnow).1
        repeat' ((first | refine T.G rfl ?_ | refine J.G rfl ?_ | refine J.H rfl ?_ | refine T.rd rfl (by decide +kernel) ?_ | fail); conv => whnf)
        refine T.cf rfl ?_
        repeat' ((first | refine T.G rfl ?_ | refine J.G rfl ?_ | refine J.H rfl ?_ | refine T.rd rfl (by decide +kernel) ?_ | fail); conv => whnf)
        have hlen2 : out.length = now.length := by rw [gx.len, gn.len]
        have hml : ((cons.map cC).length : Nat) = cons.length := List.length_map ..
        refine T.canon (keep := [1, 6, 9, 12, 52, 53, 1001, 1002, 1003]) (os := [6, 1001, 1002, 1003, 12]) rfl (T.ind (fun x : Nat × Seen => ⟨[(1, .val false (consPV cons)), (6, .ref 0), (9, .val true (.raw uq)), (12, .ref 4), (52, .val true (.int .i64 (out.map cD).length)), (53, .val true (.int .i64 x.1)), (1001, .eq uq 1), (1002, .eq ua 2), (1003, .eq uu 3)], [(0, some (.sl 45 1 true (out.map cD))), (1, some ((boxQ (cons.map cC) ua uu).reg false)), (2, some ((mpS x.2).reg false)), (3, some ((mpU us).reg false)), (4, some (.sl 45 1 true (now.map cD)))], 5⟩)
          (fun x => x.1 ≤ out.length ∧ (x.2.map (·.1)).Nodup ∧ ∀ j, openB x.2 j = true ↔ openB (dlA o (i : Int)) j = true ∨ ∃ (w : Nat) (c' : Con), w < x.1 ∧ out[w]? ≠ now[w]? ∧ cons[j]? = some c' ∧ (w : Int) ∈ usesR c') (fun x => out.length - x.1) (0, dlA o (i : Int))
          ⟨by simp, hq.nod.sublist ((dl_sub (i : Int) o).map _), fun j => ⟨.inl, fun h => h.resolve_right fun ⟨w, c', h1, _⟩ => absurd h1 (Nat.not_lt_zero w)⟩⟩ (fun _ _ h => h) ?_)
        rintro ⟨v, o2⟩ ⟨hv, hnd, ho⟩ ih2
        simp only at hv hnd ho
        dsimp only
        repeat' ((first | refine T.G rfl ?_ | refine J.G rfl ?_ | refine J.H rfl ?_ | refine T.rd rfl (by decide +kernel) ?_ | fail); conv => whnf)
        refine T.cd rfl (fun h1 => ?_) (fun h1 => ?_)
        · have h1 : v < out.length := by simpa using h1
          have h2 : v < now.length := by omega
          have hxl := (gx.few.fine _ (List.getElem_mem h1)).len
          have ra : (out.map cD)[((v : Nat) : Int).toNat]? = some (cD out[v]) := by simp [h1]
          have rb : (now.map cD)[((v : Nat) : Int).toNat]? = some (cD now[v]) := by simp [h2]
          have ea : out[v]? = some out[v] := List.getElem?_eq_getElem h1
          have eb : now[v]? = some now[v] := List.getElem?_eq_getElem h2
          have hw1 : IntKind.i64.wrap ((v : Int) + 1) = ((v + 1 : Nat) : Int) := wrap1 (l := out.length) h1 (by have := gx.few.small; omega)
          have hch := changed_spec (cons.map cC) o2 us (v : Int) uq ua uu hlen
          generalize hxa : out[v] = xa at *
          generalize hxb : now[v] = xb at *
          repeat' ((first | refine T.G rfl ?_ | refine J.G rfl ?_ | refine J.H rfl ?_ | refine T.rd rfl (by decide +kernel) ?_ | fail); conv => whnf)
          repeat' ((first | refine T.G rfl ?_ | refine J.G rfl ?_ | refine J.H rfl ?_); conv => whnf)
          refine J.io rfl rfl rfl rfl rfl rfl rfl rfl rfl (by omega) (by simpa using h1) rfl ?_
          refine J.lo rfl rfl rfl rfl rfl rfl (r := cD xa) ra rfl ?_
          repeat' ((first | refine T.G rfl ?_ | refine J.G rfl ?_ | refine J.H rfl ?_); conv => whnf)
          refine J.io rfl rfl rfl rfl rfl rfl rfl rfl rfl (by omega) (by simpa using h2) rfl ?_
          refine J.lo rfl rfl rfl rfl rfl rfl (r := cD xb) rb rfl ?_
          repeat' ((first | refine T.G rfl ?_ | refine J.G rfl ?_ | refine J.H rfl ?_); conv => whnf)
          refine J.cc rfl rfl rfl rfl rfl (domsame_spec xa xb (by omega)) rfl rfl ?_
          by_cases hab : xa = xb
          · rw [decide_eq_true hab]
            repeat' ((first | refine T.G rfl ?_ | refine J.G rfl ?_ | refine J.H rfl ?_ | refine T.rd rfl (by decide +kernel) ?_ | fail); conv => whnf)
            refine T.cf rfl ?_
            repeat' ((first | refine T.G rfl ?_ | refine J.G rfl ?_ | refine J.H rfl ?_ | refine T.rd rfl (by decide +kernel) ?_ | fail); conv => whnf)
            rw [hw1]
            have := ih2 (v + 1, o2) ⟨by omega, hnd, fun k => (ho k).trans (or_congr_right ⟨fun ⟨w, c', h3, h4⟩ => ⟨w, c', by omega, h4⟩, fun ⟨w, c', h3, h4, h5⟩ => ⟨w, c', by
              have : w ≠ v := fun e => h4 (by rw [e, ea, eb, hab])
              omega, h4, h5⟩⟩)⟩ (by show _ - _ < _ - _; omega)
            exact T.canon (keep := [1, 6, 9, 12, 52, 53, 1001, 1002, 1003]) (os := [6, 1001, 1002, 1003, 12]) rfl this
          · rw [decide_eq_false hab]
            repeat' ((first | refine T.G rfl ?_ | refine J.G rfl ?_ | refine J.H rfl ?_ | refine T.rd rfl (by decide +kernel) ?_ | fail); conv => whnf)
            refine T.ct rfl ?_
            repeat' ((first | refine T.G rfl ?_ | refine J.G rfl ?_ | refine J.H rfl ?_ | refine T.rd rfl (by decide +kernel) ?_ | fail); conv => whnf)
            refine J.co (qs := [1, 2, 3]) (cs2 := [(boxQ (cons.map cC) ua uu).reg false, (mpS o2).reg false, (mpU us).reg false]) false [1001, 1002, 1003] [] rfl rfl rfl rfl rfl rfl hch ⟨rfl, rfl, rfl, rfl, rfl, rfl, trivial⟩ rfl rfl rfl rfl rfl rfl rfl fun ns hns => ?_
            obtain rfl : ns = [] := List.eq_nil_of_length_eq_zero hns
            repeat' ((first | refine T.G rfl ?_ | refine J.G rfl ?_ | refine J.H rfl ?_ | refine T.rd rfl (by decide +kernel) ?_ | fail); conv => whnf)
            rw [hw1]
            have hb3 : ∀ k, openB (openAll ((lkA us (v : Int)).getD []) o2) k = true ↔ openB o2 k = true ∨ ∃ c', cons[k]? = some c' ∧ (v : Int) ∈ usesR c' := fun k => by
              unfold openB
              rw [openAll_lk]
              by_cases hm : (k : Int) ∈ (lkA us (v : Int)).getD []
              · rw [if_pos hm]
                obtain ⟨k', c', h3, h4, h5⟩ := (hlk _ _).1 hm
                obtain rfl : k = k' := by omega
                exact ⟨fun _ => .inr ⟨c', h3, h4⟩, fun _ => rfl⟩
              · rw [if_neg hm]
                exact ⟨.inl, fun h => h.resolve_right fun ⟨c', h3, h4⟩ => hm ((hlk _ _).2 ⟨k, c', h3, h4, rfl⟩)⟩
            have := ih2 (v + 1, openAll ((lkA us (v : Int)).getD []) o2) ⟨by omega, openAll_nod _ _ hnd, fun k => by
              rw [hb3 k, ho k]
              constructor
              · rintro ((h3 | ⟨w, c', h3, h4, h5⟩) | ⟨c', h3, h4⟩)
                · exact .inl h3
                · exact .inr ⟨w, c', by omega, h4, h5⟩
                · exact .inr ⟨v, c', by omega, by rw [ea, eb]; exact fun e => hab (Option.some.inj e), h3, h4⟩
              · rintro (h3 | ⟨w, c', h3, h4, h5⟩)
                · exact .inl (.inl h3)
                · by_cases e : w = v
                  · subst e; exact .inr ⟨c', h5⟩
                  · exact .inl (.inr ⟨w, c', by omega, h4, h5⟩)⟩ (by show _ - _ < _ - _; omega)
            exact T.canon (keep := [1, 6, 9, 12, 52, 53, 1001, 1002, 1003]) (os := [6, 1001, 1002, 1003, 12]) rfl this
        · have h1 : v = out.length := by simp at h1; omega
          subst h1
          repeat' ((first | refine T.G rfl ?_ | refine J.G rfl ?_ | refine J.H rfl ?_ | refine T.rd rfl (by decide +kernel) ?_ | fail); conv => whnf)
          have := ih (now, o2) (hqs o2 ho hnd).1 (hqs o2 ho hnd).2
          exact T.canon (keep := [1, 6, 9, 1001, 1002, 1003]) (os := [6, 1001, 1002, 1003]) rfl this
end Go.Proofs.YtlcobmehnaeebaaGreat
namespace Go.Proofs.YtlcobmehnaeebaaGreat
open Go Go.RowKit
set_option linter.unusedVariables false
set_option maxRecDepth 8000

theorem lin_specs1 {d : Doms} {c : Con} {R : Option Doms} {N N' : Nat} (h : SumOk d c) (h1 : LinAns d c R N) (h2 : LinAnsR d c R N') (hsm : ∀ x ∈ d, x.length * 64 + 1048576 ≤ 140737488355328) : 
    Spec Tryz.prog 35 false [doms d, .agg (cC c)] (pruneRes R) ∧ Spec Tryz.prog 36 false [doms d, .agg (cC c)] [.val (doms (R.getD [])), .val (.bool R.isSome)] := by
  refine ⟨(lprune_spec d c h.fine hsm R N h1), ?_⟩
  have hvb : ∀ out : Doms, out.length = d.length → ∀ v ∈ c.vars, 0 ≤ v ∧ v.toNat < out.length := fun out hl v hv => by rw [hl]; exact h.fine.vin v hv
  refine rlprune_spec d c h.fine.len h.fine.vl h.fine.ck h.pos h.fine.vin h.fine.dl h.fine.dom ?_ (fun out => (∀ x ∈ out, Fine x) ∧ out.length = d.length) (fun out hi => ⟨fun x hx => (hi.1 x hx).domB, hi.2⟩)
    (fun out hi => ⟨⟨mostRd_fine _ (hvb out hi.2) hi.1 _ (Nat.le_refl _), by rw [mostD, mostRd_len, hi.2]⟩, ⟨mostRd_fine _ (hvb out hi.2) hi.1 _ (Nat.le_refl _), by rw [mostB, mostRd_len, hi.2]⟩⟩) ⟨h.fine.dom, rfl⟩ R N' h2
  intro x hx
  have hin := rotherGo_in (termsOf d c.vars c.coefs) 0 0 0 0 c.vars.length h.pos (by have := h.fine.len; simp [termsOf]; omega) (Nat.le_refl _)
  have hall : ∀ x ∈ rotherW d c, Fine x := by
    unfold rotherW
    simp only
    split
    · exact h.fine.dom
    · split
      · split
        · exact mem_set h.fine.dom ⟨⟨by simp, .nil⟩, by simp [vals], by simp [vals]⟩
        · exact h.fine.dom
      · exact mem_set h.fine.dom (pack_fine (h.fine.dom _ (domAt_mem (h.fine.vin _ (varAt_mem hin.1)).2)) _)
  exact (hall x hx).domB
end Go.Proofs.YtlcobmehnaeebaaGreat
namespace Go.Proofs.YtlcobmehnaeebaaGreat
open Go Go.RowKit
set_option linter.unusedVariables false
set_option linter.unusedSimpArgs false
set_option maxRecDepth 8000

def prunerF (k : Int) : FuncId := if k = 1 then 29 else if k = 2 then 30 else if k = 3 then 31 else if k = 4 then 32 else if k = 5 then 33 else if k = 6 then 34 else 35
theorem fone_of {d : Doms} {c : Con} {R : Option Doms} (h : Spec Tryz.prog (prunerF c.kind) false [doms d, .agg (cC c)] (pruneRes R)) : Spec Tryz.prog 13 false [doms d, .agg (cC c)] (pruneRes R) := by
  refine Spec.body Tryz.func13 rfl rfl rfl fun w0 Z0 => ?_
  unfold prunerF at h
  repeat' ((first | refine T.G rfl ?_ | refine J.G rfl ?_ | refine J.H rfl ?_ | refine T.rd rfl (by decide +kernel) ?_ | fail); conv => whnf)
  refine T.cd rfl (fun h1 => ?_) (fun h1 => ?_)
  · have h1 : c.kind = 1 := h1
    rw [if_pos h1] at h
    repeat' ((first | refine T.G rfl ?_ | refine J.G rfl ?_ | refine J.H rfl ?_ | refine T.rd rfl (by decide +kernel) ?_ | fail); conv => whnf)
    refine J.cc rfl rfl rfl rfl rfl h rfl rfl ?_
    repeat' ((first | refine T.G rfl ?_ | refine J.G rfl ?_ | refine J.H rfl ?_ | refine T.rd rfl (by decide +kernel) ?_ | fail); conv => whnf)
    exact ⟨_, .o rfl rfl rfl (fun _ => .inl rfl) (by simp) (.v rfl rfl rfl (fun _ => rfl) .nil)⟩
  · have h1 : ¬ c.kind = 1 := h1
    rw [if_neg h1] at h
    repeat' ((first | refine T.G rfl ?_ | refine J.G rfl ?_ | refine J.H rfl ?_ | refine T.rd rfl (by decide +kernel) ?_ | fail); conv => whnf)
    refine T.cd rfl (fun h1 => ?_) (fun h1 => ?_)
    · have h1 : c.kind = 2 := h1
      rw [if_pos h1] at h
      repeat' ((first | refine T.G rfl ?_ | refine J.G rfl ?_ | refine J.H rfl ?_ | refine T.rd rfl (by decide +kernel) ?_ | fail); conv => whnf)
      refine J.cc rfl rfl rfl rfl rfl h rfl rfl ?_
      repeat' ((first | refine T.G rfl ?_ | refine J.G rfl ?_ | refine J.H rfl ?_ | refine T.rd rfl (by decide +kernel) ?_ | fail); conv => whnf)
      exact ⟨_, .o rfl rfl rfl (fun _ => .inl rfl) (by simp) (.v rfl rfl rfl (fun _ => rfl) .nil)⟩
    · have h1 : ¬ c.kind = 2 := h1
      rw [if_neg h1] at h
      repeat' ((first | refine T.G rfl ?_ | refine J.G rfl ?_ | refine J.H rfl ?_ | refine T.rd rfl (by decide +kernel) ?_ | fail); conv => whnf)
      refine T.cd rfl (fun h1 => ?_) (fun h1 => ?_)
      · have h1 : c.kind = 3 := h1
        rw [if_pos h1] at h
        repeat' ((first | refine T.G rfl ?_ | refine J.G rfl ?_ | refine J.H rfl ?_ | refine T.rd rfl (by decide +kernel) ?_ | fail); conv => whnf)
        refine J.cc rfl rfl rfl rfl rfl h rfl rfl ?_
        repeat' ((first | refine T.G rfl ?_ | refine J.G rfl ?_ | refine J.H rfl ?_ | refine T.rd rfl (by decide +kernel) ?_ | fail); conv => whnf)
        exact ⟨_, .o rfl rfl rfl (fun _ => .inl rfl) (by simp) (.v rfl rfl rfl (fun _ => rfl) .nil)⟩
      · have h1 : ¬ c.kind = 3 := h1
        rw [if_neg h1] at h
        repeat' ((first | refine T.G rfl ?_ | refine J.G rfl ?_ | refine J.H rfl ?_ | refine T.rd rfl (by decide +kernel) ?_ | fail); conv => whnf)
        refine T.cd rfl (fun h1 => ?_) (fun h1 => ?_)
        · have h1 : c.kind = 4 := h1
          rw [if_pos h1] at h
          repeat' ((first | refine T.G rfl ?_ | refine J.G rfl ?_ | refine J.H rfl ?_ | refine T.rd rfl (by decide +kernel) ?_ | fail); conv => whnf)
          refine J.cc rfl rfl rfl rfl rfl h rfl rfl ?_
          repeat' ((first | refine T.G rfl ?_ | refine J.G rfl ?_ | refine J.H rfl ?_ | refine T.rd rfl (by decide +kernel) ?_ | fail); conv => whnf)
          exact ⟨_, .o rfl rfl rfl (fun _ => .inl rfl) (by simp) (.v rfl rfl rfl (fun _ => rfl) .nil)⟩
        · have h1 : ¬ c.kind = 4 := h1
          rw [if_neg h1] at h
          repeat' ((first | refine T.G rfl ?_ | refine J.G rfl ?_ | refine J.H rfl ?_ | refine T.rd rfl (by decide +kernel) ?_ | fail); conv => whnf)
          refine T.cd rfl (fun h1 => ?_) (fun h1 => ?_)
          · have h1 : c.kind = 5 := h1
            rw [if_pos h1] at h
            repeat' ((first | refine T.G rfl ?_ | refine J.G rfl ?_ | refine J.H rfl ?_ | refine T.rd rfl (by decide +kernel) ?_ | fail); conv => whnf)
            refine J.cc rfl rfl rfl rfl rfl h rfl rfl ?_
            repeat' ((first | refine T.G rfl ?_ | refine J.G rfl ?_ | refine J.H rfl ?_ | refine T.rd rfl (by decide +kernel) ?_ | fail); conv => whnf)
            exact ⟨_, .o rfl rfl rfl (fun _ => .inl rfl) (by simp) (.v rfl rfl rfl (fun _ => rfl) .nil)⟩
          · have h1 : ¬ c.kind = 5 := h1
            rw [if_neg h1] at h
            repeat' ((first | refine T.G rfl ?_ | refine J.G rfl ?_ | refine J.H rfl ?_ | refine T.rd rfl (by decide +kernel) ?_ | fail); conv => whnf)
            refine T.cd rfl (fun h1 => ?_) (fun h1 => ?_)
            · have h1 : c.kind = 6 := h1
              rw [if_pos h1] at h
              repeat' ((first | refine T.G rfl ?_ | refine J.G rfl ?_ | refine J.H rfl ?_ | refine T.rd rfl (by decide +kernel) ?_ | fail); conv => whnf)
              refine J.cc rfl rfl rfl rfl rfl h rfl rfl ?_
              repeat' ((first | refine T.G rfl ?_ | refine J.G rfl ?_ | refine J.H rfl ?_ | refine T.rd rfl (by decide +kernel) ?_ | fail); conv => whnf)
              exact ⟨_, .o rfl rfl rfl (fun _ => .inl rfl) (by simp) (.v rfl rfl rfl (fun _ => rfl) .nil)⟩
            · have h1 : ¬ c.kind = 6 := h1
              rw [if_neg h1] at h
              repeat' ((first | refine T.G rfl ?_ | refine J.G rfl ?_ | refine J.H rfl ?_ | refine T.rd rfl (by decide +kernel) ?_ | fail); conv => whnf)
              refine J.cc rfl rfl rfl rfl rfl h rfl rfl ?_
              repeat' ((first | refine T.G rfl ?_ | refine J.G rfl ?_ | refine J.H rfl ?_ | refine T.rd rfl (by decide +kernel) ?_ | fail); conv => whnf)
              exact ⟨_, .o rfl rfl rfl (fun _ => .inl rfl) (by simp) (.v rfl rfl rfl (fun _ => rfl) .nil)⟩
def refRes (R : Option Doms) : List RV := [.val (doms (R.getD [])), .val (.bool R.isSome)]
end Go.Proofs.YtlcobmehnaeebaaGreat
namespace Go.Proofs.YtlcobmehnaeebaaGreat
open Go Go.RowKit
set_option linter.unusedVariables false
set_option linter.unusedSimpArgs false
set_option maxRecDepth 8000

theorem good_small {n : Nat} {d : Doms} (gd : GoodD n d) : ∀ x ∈ d, x.length * 64 + 1048576 ≤ 140737488355328 := fun x hx => by
  have := gd.few.few x hx
  have := dom_length_le (gd.few.fine x hx).ok
  omega
theorem linO_specs {d : Doms} {c : Con} (gd : GoodD d.length d) (h : SumOk d c) : Spec Tryz.prog 35 false [doms d, .agg (cC c)] (pruneRes (linO c d)) ∧ Spec Tryz.prog 36 false [doms d, .agg (cC c)] (refRes (linO c d)) := by
  obtain ⟨R, N, N', h1, h2, _⟩ := lin_ans h
  obtain ⟨M, hM⟩ := linO_ans h
  obtain rfl := lin_det hM h1
  exact lin_specs1 h h1 h2 (good_small gd)
theorem con_all {d : Doms} {c : Con} (hk : c.kind = 1) (hr : rightR d c = true) : c = conU c.vars ∧ c.vars.Nodup ∧ c.vars ≠ [] := by
  obtain ⟨kind, vars, coefs, op, rhs, rows, b⟩ := c
  simp only at hk
  subst hk
  simp only [rightR, noneR, plainR, bareR, manyR, Bool.and_eq_true, decide_eq_true_eq, if_neg (by decide : ¬ (1 : Int) = 0), if_pos] at hr
  obtain ⟨⟨h1, ⟨⟨h2, h3⟩, h4⟩, h5⟩, h6, h7⟩ := hr
  obtain rfl := List.eq_nil_of_length_eq_zero h1
  obtain rfl := List.eq_nil_of_length_eq_zero h5
  subst h2 h3 h4
  exact ⟨rfl, h7, List.ne_nil_of_length_pos h6⟩
theorem all_specs {d : Doms} {c : Con} (gd : GoodD d.length d) (hc : ConB c) (h : conR d c = 0) (hk : c.kind = 1) : Spec Tryz.prog 29 false [doms d, .agg (cC c)] (pruneRes (prune8 d c.vars)) ∧ Spec Tryz.prog 37 false [doms d, .agg (cC c)] (refRes (prune8 d c.vars)) := by
  obtain ⟨_, hv, hr, _⟩ := right_split hc h
  obtain ⟨e, h1, h2⟩ := con_all hk hr
  have hV : VarsU d c.vars := ⟨h1, hv.2⟩
  have a := uprune_few d c.vars gd.few hV h2
  have b := prune8_few d c.vars gd.few hV
  rw [← e] at a b
  exact ⟨a, b⟩
end Go.Proofs.YtlcobmehnaeebaaGreat
namespace Go.Proofs.YtlcobmehnaeebaaGreat
open Go Go.RowKit
set_option linter.unusedVariables false
set_option linter.unusedSimpArgs false
set_option maxRecDepth 8000

theorem right_mono {n : Nat} {d out : Doms} {c : Con} (hc : ConB c) (gd : GoodD n d) (go : GoodD n out) (hle : leD out d) (h : conR d c = 0) : conR out c = 0 := by
  obtain ⟨hk, hv, hr, hin⟩ := right_split hc h
  have hb := con_big h
  have tm : ∀ v : Int, 0 ≤ v → v.toNat < d.length → truthR (domAt d v) = true → truthR (domAt out v) = true := fun v h0 hl ht => by
    rw [gd.len] at hl
    exact (truth_vals (go.at_ hl).1).2 fun x hx => (truth_vals (gd.at_ hl).1).1 ht x (hle.2 v x h0 hx)
  have hl : out.length = d.length := hle.1
  unfold conR
  rw [if_neg (by omega), if_neg, if_neg, if_neg (by rw [hb]; simp)]
  · have hr2 : rightR out c = true := by
      unfold rightR at hr ⊢
      split
      · rename_i h0; rw [if_pos h0] at hr; exact hr
      · rename_i h0
        rw [if_neg h0] at hr
        split
        · rename_i h1; rw [if_pos h1] at hr; exact hr
        · rename_i h1
          rw [if_neg h1] at hr
          split
          · rename_i h2; rw [if_pos h2] at hr; exact hr
          · rename_i h2
            rw [if_neg h2] at hr
            split
            · rename_i h3; rw [if_pos h3] at hr; exact hr
            · rename_i h3
              rw [if_neg h3] at hr
              split
              · rename_i h4
                rw [if_pos h4] at hr
                simp only [Bool.and_eq_true] at hr ⊢
                have hb4 := hin c.b (uses_mem.2 (.inr ⟨h4, rfl⟩))
                exact ⟨⟨hr.1.1, tm c.b hb4.1 hb4.2 hr.1.2⟩, hr.2⟩
              · rename_i h4
                rw [if_neg h4] at hr
                split
                · rename_i h5
                  rw [if_pos h5] at hr
                  simp only [Bool.and_eq_true] at hr ⊢
                  refine ⟨hr.1, List.all_eq_true.2 fun i hi => ?_⟩
                  have hu := List.all_eq_true.1 hr.2 i hi
                  simp only [unitAt, Bool.and_eq_true] at hu ⊢
                  have hvi := hv.2 _ (varAt_mem (c := c) (List.mem_range.1 hi))
                  exact ⟨tm _ hvi.1 hvi.2 hu.1, hu.2⟩
                · rename_i h5; rw [if_neg h5] at hr; exact hr
    rw [hr2]; simp
  · have : (usesR c).all (inD out) = true := List.all_eq_true.2 fun u hu => inD_iff.2 (by have := hin u hu; omega)
    rw [this]; simp
theorem fone01 {d : Doms} {c : Con} (gd : GoodD d.length d) (hc : ConB c) (hr : conR d c = 0) (hk : c.kind = 0 ∨ c.kind = 1) : Spec Tryz.prog 13 false [doms d, .agg (cC c)] (pruneRes (oneO c d)) := by
  refine fone_of ?_
  unfold prunerF oneO
  rcases hk with h0 | h1
  · rw [h0]
    exact (linO_specs gd (sum_in hc hr h0 gd.few.fine gd.few.small)).1
  · rw [h1]
    exact (all_specs gd hc hr h1).1
def kA (rhs : Int) : Con := ⟨0, [0, 1], [1, 1], 0, rhs, [], 0⟩
def kB : Con := conU [0, 1]
def kC : Con := ⟨0, [0], [-1], 0, -2, [], 0⟩
def dmQ (a b c d : Int) : Doms := [[(a, b)], [(c, d)]]
theorem dmQ_good {a b c d : Int} (h1 : a ≤ b) (h2 : c ≤ d) (h3 : 0 ≤ a) (h4 : 0 ≤ c) (h5 : b ≤ 3) (h6 : d ≤ 3) : GoodD 2 (dmQ a b c d) := by
  have f1 : Fine [(a, b)] := fine1 h1 (by omega) (by omega)
  have f2 : Fine [(c, d)] := fine1 h2 (by omega) (by omega)
  have key : ∀ a b : Int, 0 ≤ a → b ≤ 3 → (vals [(a, b)]).length ≤ 4096 := fun a b h1 h2 => by
    show (rng a b ++ []).length ≤ 4096
    simp [rng]; omega
  refine ⟨⟨by simp [dmQ], fun x hx => ?_, fun x hx => ?_⟩, rfl, by simp [dmQ]⟩
  · simp [dmQ] at hx; rcases hx with rfl | rfl <;> assumption
  · simp [dmQ] at hx; rcases hx with rfl | rfl
    · exact key _ _ h3 h5
    · exact key _ _ h4 h6
theorem kA_B (r : Int) : ConB (kA r) := by simp [ConB, kA]
theorem kB_B : ConB kB := by simp [ConB, kB, conU]
theorem kC_B : ConB kC := by simp [ConB, kC]
theorem lin_val {d : Doms} {c : Con} {R : Option Doms} {N : Nat} (gd : GoodD 2 d) (hc : ConB c) (hk : c.kind = 0) (hr : conR d c = 0) (h : LinAns d c R N) : oneO c d = R := by
  obtain ⟨M, hM⟩ := linO_ans (sum_in hc hr hk gd.few.fine gd.few.small)
  unfold oneO
  rw [if_pos hk]
  exact lin_det hM h
theorem gq0 : GoodD 2 (dmQ 0 3 0 3) := dmQ_good (by decide) (by decide) (by decide) (by decide) (by decide) (by decide)
theorem gq1 : GoodD 2 (dmQ 2 3 0 3) := dmQ_good (by decide) (by decide) (by decide) (by decide) (by decide) (by decide)
theorem gq2 : GoodD 2 (dmQ 2 2 0 0) := dmQ_good (by decide) (by decide) (by decide) (by decide) (by decide) (by decide)
theorem oneQ1 : oneO kC (dmQ 0 3 0 3) = some (dmQ 2 3 0 3) := lin_val (N := 5) gq0 kC_B rfl (by decide +kernel) (by unfold LinAns; rw [if_neg (by decide), if_neg (by decide)]; decide +kernel)
theorem oneQ2 : oneO (kA 2) (dmQ 2 3 0 3) = some (dmQ 2 2 0 0) := lin_val (N := 5) gq1 (kA_B 2) rfl (by decide +kernel) (by unfold LinAns; rw [if_neg (by decide), if_neg (by decide)]; decide +kernel)
theorem oneQ3 : oneO (kA 2) (dmQ 2 2 0 0) = some (dmQ 2 2 0 0) := lin_val (N := 5) gq2 (kA_B 2) rfl (by decide +kernel) (by unfold LinAns; rw [if_neg (by decide), if_neg (by decide)]; decide +kernel)
theorem oneQ4 : oneO kC (dmQ 2 2 0 0) = some (dmQ 2 2 0 0) := lin_val (N := 5) gq2 kC_B rfl (by decide +kernel) (by unfold LinAns; rw [if_neg (by decide), if_neg (by decide)]; decide +kernel)
theorem oneQ5 : oneO (kA 1) (dmQ 2 3 0 3) = none := lin_val (N := 5) gq1 (kA_B 1) rfl (by decide +kernel) (by unfold LinAns; rw [if_neg (by decide), if_neg (by decide)]; decide +kernel)
theorem oneQ6 : oneO kB (dmQ 2 2 0 0) = some (dmQ 2 2 0 0) := by
  unfold oneO
  rw [if_neg (by decide), if_pos (by decide)]
  decide +kernel
theorem fxOkQ (r : Int) (hr : r = 1 ∨ r = 2) : ConsOk (dmQ 0 3 0 3) [kA r, kB, kC] := by
  refine ⟨fun c hc => ?_, fun c hc => ?_, by simp, ?_⟩
  · simp at hc
    rcases hc with rfl | rfl | rfl
    · exact kA_B r
    · exact kB_B
    · exact kC_B
  · simp at hc
    rcases hc with rfl | rfl | rfl
    · rcases hr with rfl | rfl <;> decide +kernel
    · decide +kernel
    · decide +kernel
  · rcases hr with rfl | rfl <;> decide +kernel
theorem allQ1 : allO [kA 2, kB, kC] (dmQ 0 3 0 3) = some (dmQ 2 2 0 0) := by
  have hs := (fxOkQ 2 (.inr rfl)).step gq0
  refine (allO_eq (R := some (dmQ 2 2 0 0)) ⟨?_, fun c hc => ?_⟩).symm
  · exact ((Come.refl (orderD 2) gq0).step (orderD 2) (c := kC) (by simp) (hs kC (by simp)).takes oneQ1).step (orderD 2) (c := kA 2) (by simp) (hs (kA 2) (by simp)).takes oneQ2
  · simp at hc
    rcases hc with rfl | rfl | rfl
    · exact oneQ3
    · exact oneQ6
    · exact oneQ4
theorem allQ2 : allO [kA 1, kB, kC] (dmQ 0 3 0 3) = none := by
  have hs := (fxOkQ 1 (.inl rfl)).step gq0
  refine (allO_eq (R := none) ?_).symm
  exact ((Come.refl (orderD 2) gq0).step (orderD 2) (c := kC) (by simp) (hs kC (by simp)).takes oneQ1).none (c := kA 1) (by simp) (hs (kA 1) (by simp)).takes oneQ5
theorem vfixed_all (r : Int) (hr : r = 1 ∨ r = 2) : Spec Tryz.prog 16 false [doms (dmQ 0 3 0 3), consPV [kA r, kB, kC]] (pruneRes (allO [kA r, kB, kC] (dmQ 0 3 0 3))) := by
  refine fall_spec _ _ (by simp [dmQ]) (fun x hx => ⟨gq0.few.fine x hx, gq0.few.few x hx⟩) (fxOkQ r hr) fun c hc out go hle => ?_
  have h1 := (fxOkQ r hr).con c hc
  refine fone01 (by rw [show out.length = 2 from go.len]; exact go) h1 (right_mono h1 gq0 go hle ((fxOkQ r hr).right c hc)) ?_
  simp at hc
  rcases hc with rfl | rfl | rfl
  · exact .inl rfl
  · exact .inr rfl
  · exact .inl rfl
theorem vfixed_spec : Spec Tryz.prog 11 false [] [.val (.bool true)] := by
  refine Spec.body Tryz.func11 rfl rfl rfl fun w0 Z0 => ?_
  have p1 := (vfixed_all 2 (.inr rfl)).frz
  have p2 := (vfixed_all 1 (.inl rfl)).frz
  rw [allQ1] at p1
  rw [allQ2] at p2
  have p1 : Spec Tryz.prog 16 false [doms (dmQ 0 3 0 3), consPV [kA 2, kB, kC]] [.val (doms (dmQ 2 2 0 0)), .val (.bool true)] := p1
  have p2 : Spec Tryz.prog 16 false [doms (dmQ 0 3 0 3), consPV [kA 1, kB, kC]] [.val (doms []), .val (.bool false)] := p2
  have s1 := sames_spec (dmQ 2 2 0 0) (dmQ 2 2 0 0) (by decide) (by decide)
  rw [decide_eq_true rfl] at s1
  have v1 := (fsolved_spec (dmQ 2 2 0 0) (by decide) gq2.few.fine).frz
  have v2 := (fsolved_spec [[(0, 3)]] (by decide) (fun x hx => gq0.few.fine x (by simp [dmQ] at hx ⊢; exact hx))).frz
  rw [show solvedO (dmQ 2 2 0 0) = some [2, 0] from by decide +kernel] at v1
  rw [show solvedO [[(0, 3)]] = none from by decide +kernel] at v2
  have v1 : Spec Tryz.prog 18 false [doms (dmQ 2 2 0 0)] [.val (ints [2, 0]), .val (.bool true)] := v1
  have v2 : Spec Tryz.prog 18 false [doms [[(0, 3)]]] [.val (ints []), .val (.bool false)] := v2
  have s2 := nums_spec [2, 0] [2, 0] (by decide)
  rw [decide_eq_true rfl] at s2
  repeat' ((first | refine T.G rfl ?_ | refine J.G rfl ?_ | refine J.H rfl ?_ | refine T.rd rfl (by decide +kernel) ?_ | fail); conv => whnf)
  refine J.bv rfl rfl rfl rfl rfl rfl rfl rfl rfl rfl rfl rfl ?_
  repeat' ((first | refine T.G rfl ?_ | refine J.G rfl ?_ | refine J.H rfl ?_ | refine T.rd rfl (by decide +kernel) ?_ | fail); conv => whnf)
  refine J.bv rfl rfl rfl rfl rfl rfl rfl rfl rfl rfl rfl rfl ?_
  refine J.bv rfl rfl rfl rfl rfl rfl rfl rfl rfl rfl rfl rfl ?_
  repeat' ((first | refine T.G rfl ?_ | refine J.G rfl ?_ | refine J.H rfl ?_ | refine T.rd rfl (by decide +kernel) ?_ | fail); conv => whnf)
  refine J.bv rfl rfl rfl rfl rfl rfl rfl rfl rfl rfl rfl rfl ?_
  repeat' ((first | refine T.G rfl ?_ | refine J.G rfl ?_ | refine J.H rfl ?_ | refine T.rd rfl (by decide +kernel) ?_ | fail); conv => whnf)
  refine J.bv rfl rfl rfl rfl rfl rfl rfl rfl rfl rfl rfl rfl ?_
  refine J.bv rfl rfl rfl rfl rfl rfl rfl rfl rfl rfl rfl rfl ?_
  repeat' ((first | refine T.G rfl ?_ | refine J.G rfl ?_ | refine J.H rfl ?_ | refine T.rd rfl (by decide +kernel) ?_ | fail); conv => whnf)
  refine J.bo rfl rfl rfl rfl rfl rfl rfl rfl rfl rfl rfl rfl ?_
  repeat' ((first | refine T.G rfl ?_ | refine J.G rfl ?_ | refine J.H rfl ?_ | refine T.rd rfl (by decide +kernel) ?_ | fail); conv => whnf)
  refine J.bv rfl rfl rfl rfl rfl rfl rfl rfl rfl rfl rfl rfl ?_
  repeat' ((first | refine T.G rfl ?_ | refine J.G rfl ?_ | refine J.H rfl ?_ | refine T.rd rfl (by decide +kernel) ?_ | fail); conv => whnf)
  refine J.cc rfl rfl rfl rfl rfl p1 rfl rfl ?_
  repeat' ((first | refine T.G rfl ?_ | refine J.G rfl ?_ | refine J.H rfl ?_ | refine T.rd rfl (by decide +kernel) ?_ | fail); conv => whnf)
  refine J.cc rfl rfl rfl rfl rfl v1 rfl rfl ?_
  repeat' ((first | refine T.G rfl ?_ | refine J.G rfl ?_ | refine J.H rfl ?_ | refine T.rd rfl (by decide +kernel) ?_ | fail); conv => whnf)
  refine J.bv rfl rfl rfl rfl rfl rfl rfl rfl rfl rfl rfl rfl ?_
  repeat' ((first | refine T.G rfl ?_ | refine J.G rfl ?_ | refine J.H rfl ?_ | refine T.rd rfl (by decide +kernel) ?_ | fail); conv => whnf)
  refine J.cc rfl rfl rfl rfl rfl v2 rfl rfl ?_
  repeat' ((first | refine T.G rfl ?_ | refine J.G rfl ?_ | refine J.H rfl ?_ | refine T.rd rfl (by decide +kernel) ?_ | fail); conv => whnf)
  refine J.io rfl rfl rfl rfl rfl rfl rfl rfl rfl (by decide) (by decide) rfl ?_
  repeat' ((first | refine T.G rfl ?_ | refine J.G rfl ?_ | refine J.H rfl ?_ | refine T.rd rfl (by decide +kernel) ?_ | fail); conv => whnf)
  refine J.w rfl rfl rfl rfl rfl rfl rfl rfl rfl rfl ?_
  repeat' ((first | refine T.G rfl ?_ | refine J.G rfl ?_ | refine J.H rfl ?_ | refine T.rd rfl (by decide +kernel) ?_ | fail); conv => whnf)
  refine J.bv rfl rfl rfl rfl rfl rfl rfl rfl rfl rfl rfl rfl ?_
  repeat' ((first | refine T.G rfl ?_ | refine J.G rfl ?_ | refine J.H rfl ?_ | refine T.rd rfl (by decide +kernel) ?_ | fail); conv => whnf)
  refine J.cc rfl rfl rfl rfl rfl p2 rfl rfl ?_
  repeat' ((first | refine T.G rfl ?_ | refine J.G rfl ?_ | refine J.H rfl ?_ | refine T.rd rfl (by decide +kernel) ?_ | fail); conv => whnf)
  refine J.bv rfl rfl rfl rfl rfl rfl rfl rfl rfl rfl rfl rfl ?_
  repeat' ((first | refine T.G rfl ?_ | refine J.G rfl ?_ | refine J.H rfl ?_ | refine T.rd rfl (by decide +kernel) ?_ | fail); conv => whnf)
  refine J.bv rfl rfl rfl rfl rfl rfl rfl rfl rfl rfl rfl rfl ?_
  refine J.bv rfl rfl rfl rfl rfl rfl rfl rfl rfl rfl rfl rfl ?_
  refine J.cc rfl rfl rfl rfl rfl s1 rfl rfl ?_
  repeat' ((first | refine T.G rfl ?_ | refine J.G rfl ?_ | refine J.H rfl ?_ | refine T.rd rfl (by decide +kernel) ?_ | fail); conv => whnf)
  refine J.bv rfl rfl rfl rfl rfl rfl rfl rfl rfl rfl rfl rfl ?_
  refine J.cc rfl rfl rfl rfl rfl s2 rfl rfl ?_
  repeat' ((first | refine T.G rfl ?_ | refine J.G rfl ?_ | refine J.H rfl ?_ | refine T.rd rfl (by decide +kernel) ?_ | fail); conv => whnf)
  exact ⟨_, .v rfl rfl rfl (fun _ => rfl) .nil⟩
end Go.Proofs.YtlcobmehnaeebaaGreat
namespace Go.Proofs.YtlcobmehnaeebaaGreat
open Go Go.RowKit
set_option linter.unusedVariables false
set_option linter.unusedSimpArgs false
set_option maxRecDepth 8000

theorem sing_fine {k : Int} (h1 : -1048576 ≤ k) (h2 : k ≤ 1048576) : Fine (sing k) := fine1 (Int.le_refl k) h1 h2
theorem sings_solved (l : List Int) : solvedO (sings l) = some l := by
  have h1 : ∀ k : Int, oneV (sing k) = true := fun k => by
    unfold oneV sing
    rw [show vals [(k, k)] = rng k k ++ [] from rfl, rng_self]; rfl
  unfold solvedO
  rw [if_pos]
  · congr 1
    rw [sings, List.map_map]
    exact (List.map_congr_left fun k _ => rfl).trans (List.map_id _)
  · rw [List.all_eq_true]
    intro x hx
    obtain ⟨k, _, rfl⟩ := List.mem_map.1 hx
    exact h1 k
theorem law_fsolved (a : List Int) (more : Bool) (ha : a.length * 8 ≤ 140737488355328) : Spec Tryz.prog 9 true [ints a, .bool more] [.val (.bool true)] := by
  refine Spec.body Tryz.func9 rfl rfl rfl fun w0 Z0 => ?_
  have hks : ∃ ks : List Int, ks = (a.take 30).map (fun k => k.tmod 1000) := ⟨_, rfl⟩
  obtain ⟨ks, hks⟩ := hks
  have hkl : ks.length = min 30 a.length := by rw [hks]; simp
  have hkb : ∀ k ∈ ks, -1000 < k ∧ k < 1000 := by
    intro k hk
    rw [hks] at hk
    obtain ⟨x, _, rfl⟩ := List.mem_map.1 hk
    exact ⟨Int.lt_tmod_of_pos _ (by decide), Int.tmod_lt_of_pos _ (by decide)⟩
  have hfin : ∀ x ∈ sings ks, Fine x := by
    intro x hx
    obtain ⟨k, hk, rfl⟩ := List.mem_map.1 hx
    have := hkb k hk
    exact sing_fine (by omega) (by omega)
  have f12 : Fine [(1, 2)] := fine1 (by decide) (by decide) (by decide)
  have fnil : Fine [] := ⟨⟨by simp, .nil⟩, by simp [vals], by simp [vals]⟩
  have hfn : ∀ y, Fine y → ∀ x ∈ sings ks ++ [y], Fine x := fun y hy x hx => by
    rcases List.mem_append.1 hx with hx | hx
    · exact hfin x hx
    · rw [List.mem_singleton.1 hx]; exact hy
  have hno : ∀ y, oneV y = false → solvedO (sings ks ++ [y]) = none := fun y hy => solvedO_no hy
  have hnum := nums_spec ks ks (by omega)
  rw [decide_eq_true rfl] at hnum
  repeat' ((first | refine T.G rfl ?_ | refine J.G rfl ?_ | refine J.H rfl ?_ | refine T.rd rfl (by decide +kernel) ?_ | fail); conv => whnf)
  refine J.bo rfl rfl rfl rfl rfl rfl rfl rfl rfl rfl rfl rfl ?_
  refine J.bo rfl rfl rfl rfl rfl rfl rfl rfl rfl rfl rfl rfl ?_
  repeat' ((first | refine T.G rfl ?_ | refine J.G rfl ?_ | refine J.H rfl ?_ | refine T.rd rfl (by decide +kernel) ?_ | fail); conv => whnf)
  refine T.canon (keep := [0, 1, 5, 6, 7]) (os := [5, 6]) rfl (T.ind (fun i : Nat => ⟨[(0, .val false (ints a)), (1, .val false (.bool more)), (5, .ref 0), (6, .ref 1), (7, .val true (.int .i64 i))], [(0, some (.sl 45 1 true ((sings (ks.take i)).map cD))), (1, some (.sl 3 1 true ((ks.take i).map cI)))], 2⟩) (fun i => i ≤ ks.length) (fun i => ks.length - i) 0 (by simp) (fun _ _ h => h) ?_)
  rintro i hi ih
  repeat' ((first | refine T.G rfl ?_ | refine J.G rfl ?_ | refine J.H rfl ?_ | refine T.rd rfl (by decide +kernel) ?_ | fail); conv => whnf)
  refine J.g rfl rfl rfl (fun h1 => ?_) (fun h1 => ?_)
  · have h1 : i < a.length := by simpa using h1
    repeat' ((first | refine T.G rfl ?_ | refine J.G rfl ?_ | refine J.H rfl ?_ | refine T.rd rfl (by decide +kernel) ?_ | fail); conv => whnf)
    refine T.cd rfl (fun h2 => ?_) (fun h2 => ?_)
    · have h2 : i < 30 := by omega
      have h3 : i < ks.length := by omega
      have hki : ks[i] = a[i].tmod 1000 := by simp [hks]
      repeat' ((first | refine T.G rfl ?_ | refine J.G rfl ?_ | refine J.H rfl ?_ | refine T.rd rfl (by decide +kernel) ?_ | fail); conv => whnf)
      refine J.i rfl rfl rfl rfl rfl rfl rfl rfl rfl (r := cI a[i]) (by omega) (row_i h1) rfl ?_
      repeat' ((first | refine T.G rfl ?_ | refine J.G rfl ?_ | refine J.H rfl ?_ | refine T.rd rfl (by decide +kernel) ?_ | fail); conv => whnf)
      refine J.bv rfl rfl rfl rfl rfl rfl rfl rfl rfl rfl rfl rfl ?_
      refine J.bv rfl rfl rfl rfl rfl rfl rfl rfl rfl rfl rfl rfl ?_
      refine J.aD rfl rfl rfl rfl rfl rfl rfl rfl rfl rfl rfl rfl rfl rfl rfl rfl rfl rfl rfl (l := sings (ks.take i)) (x := sing (a[i].tmod 1000)) (by simp [sings]; omega) ?_
      repeat' ((first | refine T.G rfl ?_ | refine J.G rfl ?_ | refine J.H rfl ?_ | refine T.rd rfl (by decide +kernel) ?_ | fail); conv => whnf)
      refine J.bv rfl rfl rfl rfl rfl rfl rfl rfl rfl rfl rfl rfl ?_
      refine J.aI rfl rfl rfl rfl rfl rfl rfl rfl rfl rfl rfl rfl rfl rfl rfl rfl rfl rfl rfl (by simp; omega) ?_
      repeat' ((first | refine T.G rfl ?_ | refine J.G rfl ?_ | refine J.H rfl ?_ | refine T.rd rfl (by decide +kernel) ?_ | fail); conv => whnf)
      rw [wrap1 (l := a.length) h1 ha]
      have := ih (i + 1) (by omega) (by omega)
      rw [List.take_succ_eq_append_getElem h3, hki] at this
      rw [show sings (ks.take i ++ [a[i].tmod 1000]) = sings (ks.take i) ++ [sing (a[i].tmod 1000)] from List.map_append ..] at this
      exact T.canon (keep := [0, 1, 5, 6, 7]) (os := [5, 6]) rfl this
    · have hik : i = ks.length := by omega
      subst hik
      rw [List.take_length]
      repeat' ((first | refine T.G rfl ?_ | refine J.G rfl ?_ | refine J.H rfl ?_ | refine T.rd rfl (by decide +kernel) ?_ | fail); conv => whnf)
      refine J.cc rfl rfl rfl rfl rfl (fsolved_spec (sings ks) (by simp [sings]; omega) hfin) rfl rfl ?_
      rw [sings_solved]
      repeat' ((first | refine T.G rfl ?_ | refine J.G rfl ?_ | refine J.H rfl ?_ | refine T.rd rfl (by decide +kernel) ?_ | fail); conv => whnf)
      refine J.cc rfl rfl rfl rfl rfl hnum rfl rfl ?_
      repeat' ((first | refine T.G rfl ?_ | refine J.G rfl ?_ | refine J.H rfl ?_ | refine T.rd rfl (by decide +kernel) ?_ | fail); conv => whnf)
      refine T.cf rfl ?_
      repeat' ((first | refine T.G rfl ?_ | refine J.G rfl ?_ | refine J.H rfl ?_ | refine T.rd rfl (by decide +kernel) ?_ | fail); conv => whnf)
      refine J.bo rfl rfl rfl rfl rfl rfl rfl rfl rfl rfl rfl rfl ?_
      repeat' ((first | refine T.G rfl ?_ | refine J.G rfl ?_ | refine J.H rfl ?_ | refine T.rd rfl (by decide +kernel) ?_ | fail); conv => whnf)
      cases more
      · refine T.cf rfl ?_
        refine T.sub (Rel.frz (s := 11) (fun _ h => h) rfl rfl) ?_
        repeat' ((first | refine T.G rfl ?_ | refine J.G rfl ?_ | refine J.H rfl ?_ | refine T.rd rfl (by decide +kernel) ?_ | fail); conv => whnf)
        refine J.bv rfl rfl rfl rfl rfl rfl rfl rfl rfl rfl rfl rfl ?_
        refine J.aD rfl rfl rfl rfl rfl rfl rfl rfl rfl rfl rfl rfl rfl rfl rfl rfl rfl rfl rfl (l := sings ks) (x := []) (by simp [sings]; omega) ?_
        repeat' ((first | refine T.G rfl ?_ | refine J.G rfl ?_ | refine J.H rfl ?_ | refine T.rd rfl (by decide +kernel) ?_ | fail); conv => whnf)
        refine J.cc rfl rfl rfl rfl rfl (fsolved_spec (sings ks ++ [[]]) (by simp [sings]; omega) (hfn [] fnil)) rfl rfl ?_
        rw [hno [] rfl]
        repeat' ((first | refine T.G rfl ?_ | refine J.G rfl ?_ | refine J.H rfl ?_ | refine T.rd rfl (by decide +kernel) ?_ | fail); conv => whnf)
        refine J.cc rfl rfl rfl rfl rfl vfixed_spec rfl rfl ?_
        repeat' ((first | refine T.G rfl ?_ | refine J.G rfl ?_ | refine J.H rfl ?_ | refine T.rd rfl (by decide +kernel) ?_ | fail); conv => whnf)
        exact ⟨_, .v rfl rfl rfl (fun _ => rfl) .nil⟩
      · refine T.ct rfl ?_
        repeat' ((first | refine T.G rfl ?_ | refine J.G rfl ?_ | refine J.H rfl ?_ | refine T.rd rfl (by decide +kernel) ?_ | fail); conv => whnf)
        refine J.bv rfl rfl rfl rfl rfl rfl rfl rfl rfl rfl rfl rfl ?_
        refine J.aR rfl rfl rfl rfl rfl rfl rfl rfl rfl rfl rfl rfl rfl rfl rfl rfl rfl rfl rfl (l := []) (a := 1) (b := 2) (by decide) ?_
        repeat' ((first | refine T.G rfl ?_ | refine J.G rfl ?_ | refine J.H rfl ?_ | refine T.rd rfl (by decide +kernel) ?_ | fail); conv => whnf)
        refine J.sub (Rel.frz (s := 62) (fun _ h => h) rfl rfl) ?_
        refine J.bv rfl rfl rfl rfl rfl rfl rfl rfl rfl rfl rfl rfl ?_
        refine J.aD rfl rfl rfl rfl rfl rfl rfl rfl rfl rfl rfl rfl rfl rfl rfl rfl rfl rfl rfl (l := sings ks) (x := [(1, 2)]) (by simp [sings]; omega) ?_
        repeat' ((first | refine T.G rfl ?_ | refine J.G rfl ?_ | refine J.H rfl ?_ | refine T.rd rfl (by decide +kernel) ?_ | fail); conv => whnf)
        refine J.cc rfl rfl rfl rfl rfl (fsolved_spec (sings ks ++ [[(1, 2)]]) (by simp [sings]; omega) (hfn [(1, 2)] f12)) rfl rfl ?_
        rw [hno [(1, 2)] rfl]
        repeat' ((first | refine T.G rfl ?_ | refine J.G rfl ?_ | refine J.H rfl ?_ | refine T.rd rfl (by decide +kernel) ?_ | fail); conv => whnf)
        refine J.cc rfl rfl rfl rfl rfl vfixed_spec rfl rfl ?_
        repeat' ((first | refine T.G rfl ?_ | refine J.G rfl ?_ | refine J.H rfl ?_ | refine T.rd rfl (by decide +kernel) ?_ | fail); conv => whnf)
        exact ⟨_, .v rfl rfl rfl (fun _ => rfl) .nil⟩
  · have hik : i = ks.length := by have : ¬ i < a.length := by simpa using h1
                                   omega
    repeat' ((first | refine T.G rfl ?_ | refine J.G rfl ?_ | refine J.H rfl ?_ | refine T.rd rfl (by decide +kernel) ?_ | fail); conv => whnf)
    refine T.cf rfl ?_
    subst hik
    rw [List.take_length]
    repeat' ((first | refine T.G rfl ?_ | refine J.G rfl ?_ | refine J.H rfl ?_ | refine T.rd rfl (by decide +kernel) ?_ | fail); conv => whnf)
    refine J.cc rfl rfl rfl rfl rfl (fsolved_spec (sings ks) (by simp [sings]; omega) hfin) rfl rfl ?_
    rw [sings_solved]
    repeat' ((first | refine T.G rfl ?_ | refine J.G rfl ?_ | refine J.H rfl ?_ | refine T.rd rfl (by decide +kernel) ?_ | fail); conv => whnf)
    refine J.cc rfl rfl rfl rfl rfl hnum rfl rfl ?_
    repeat' ((first | refine T.G rfl ?_ | refine J.G rfl ?_ | refine J.H rfl ?_ | refine T.rd rfl (by decide +kernel) ?_ | fail); conv => whnf)
    refine T.cf rfl ?_
    repeat' ((first | refine T.G rfl ?_ | refine J.G rfl ?_ | refine J.H rfl ?_ | refine T.rd rfl (by decide +kernel) ?_ | fail); conv => whnf)
    refine J.bo rfl rfl rfl rfl rfl rfl rfl rfl rfl rfl rfl rfl ?_
    repeat' ((first | refine T.G rfl ?_ | refine J.G rfl ?_ | refine J.H rfl ?_ | refine T.rd rfl (by decide +kernel) ?_ | fail); conv => whnf)
    cases more
    · refine T.cf rfl ?_
      refine T.sub (Rel.frz (s := 11) (fun _ h => h) rfl rfl) ?_
      repeat' ((first | refine T.G rfl ?_ | refine J.G rfl ?_ | refine J.H rfl ?_ | refine T.rd rfl (by decide +kernel) ?_ | fail); conv => whnf)
      refine J.bv rfl rfl rfl rfl rfl rfl rfl rfl rfl rfl rfl rfl ?_
      refine J.aD rfl rfl rfl rfl rfl rfl rfl rfl rfl rfl rfl rfl rfl rfl rfl rfl rfl rfl rfl (l := sings ks) (x := []) (by simp [sings]; omega) ?_
      repeat' ((first | refine T.G rfl ?_ | refine J.G rfl ?_ | refine J.H rfl ?_ | refine T.rd rfl (by decide +kernel) ?_ | fail); conv => whnf)
      refine J.cc rfl rfl rfl rfl rfl (fsolved_spec (sings ks ++ [[]]) (by simp [sings]; omega) (hfn [] fnil)) rfl rfl ?_
      rw [hno [] rfl]
      repeat' ((first | refine T.G rfl ?_ | refine J.G rfl ?_ | refine J.H rfl ?_ | refine T.rd rfl (by decide +kernel) ?_ | fail); conv => whnf)
      refine J.cc rfl rfl rfl rfl rfl vfixed_spec rfl rfl ?_
      repeat' ((first | refine T.G rfl ?_ | refine J.G rfl ?_ | refine J.H rfl ?_ | refine T.rd rfl (by decide +kernel) ?_ | fail); conv => whnf)
      exact ⟨_, .v rfl rfl rfl (fun _ => rfl) .nil⟩
    · refine T.ct rfl ?_
      repeat' ((first | refine T.G rfl ?_ | refine J.G rfl ?_ | refine J.H rfl ?_ | refine T.rd rfl (by decide +kernel) ?_ | fail); conv => whnf)
      refine J.bv rfl rfl rfl rfl rfl rfl rfl rfl rfl rfl rfl rfl ?_
      refine J.aR rfl rfl rfl rfl rfl rfl rfl rfl rfl rfl rfl rfl rfl rfl rfl rfl rfl rfl rfl (l := []) (a := 1) (b := 2) (by decide) ?_
      repeat' ((first | refine T.G rfl ?_ | refine J.G rfl ?_ | refine J.H rfl ?_ | refine T.rd rfl (by decide +kernel) ?_ | fail); conv => whnf)
      refine J.sub (Rel.frz (s := 62) (fun _ h => h) rfl rfl) ?_
      refine J.bv rfl rfl rfl rfl rfl rfl rfl rfl rfl rfl rfl rfl ?_
      refine J.aD rfl rfl rfl rfl rfl rfl rfl rfl rfl rfl rfl rfl rfl rfl rfl rfl rfl rfl rfl (l := sings ks) (x := [(1, 2)]) (by simp [sings]; omega) ?_
      repeat' ((first | refine T.G rfl ?_ | refine J.G rfl ?_ | refine J.H rfl ?_ | refine T.rd rfl (by decide +kernel) ?_ | fail); conv => whnf)
      refine J.cc rfl rfl rfl rfl rfl (fsolved_spec (sings ks ++ [[(1, 2)]]) (by simp [sings]; omega) (hfn [(1, 2)] f12)) rfl rfl ?_
      rw [hno [(1, 2)] rfl]
      repeat' ((first | refine T.G rfl ?_ | refine J.G rfl ?_ | refine J.H rfl ?_ | refine T.rd rfl (by decide +kernel) ?_ | fail); conv => whnf)
      refine J.cc rfl rfl rfl rfl rfl vfixed_spec rfl rfl ?_
      repeat' ((first | refine T.G rfl ?_ | refine J.G rfl ?_ | refine J.H rfl ?_ | refine T.rd rfl (by decide +kernel) ?_ | fail); conv => whnf)
      exact ⟨_, .v rfl rfl rfl (fun _ => rfl) .nil⟩
end Go.Proofs.YtlcobmehnaeebaaGreat
namespace Go.Proofs.YtlcobmehnaeebaaGreat
open Go Go.RowKit
set_option linter.unusedVariables false
set_option maxRecDepth 100000

section
variable {H : Type} {henc : TypeId × Value → H} {w : World}
theorem opens_I : Opens henc Tryz.prog w 3 cI (fun n => -9223372036854775808 ≤ n ∧ n ≤ 9223372036854775807) := opens_int (by kernel_rfl)
theorem opens_IL : Opens henc Tryz.prog w 24 (fun l => [ints l]) (fun l => l.length * 8 ≤ reachBytes) :=
  (opens_slice (t := 24) (e := 3) (by kernel_rfl) opens_I (fun _ => by kernel_rfl) (by decide +kernel) (fun a p hp => by simp [cI] at hp; subst hp; rfl)).map id (fun _ => rfl) fun l h => h.1
end
end Go.Proofs.YtlcobmehnaeebaaGreat
