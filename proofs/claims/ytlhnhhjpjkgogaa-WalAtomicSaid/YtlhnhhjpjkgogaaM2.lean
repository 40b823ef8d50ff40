/- What Open reads of an area: records, torn records, what lies behind them. No program is walked here. What Open reads of an area of which some sectors were torn. No program is walked here. The plain law of WalTorn: what a torn write of a frame over another one leaves. No program is walked here. What a torn write leaves of a sector to which only frames of small epochs, each greater than the ones before, were written. No program is walked here. What the scan of a disk finds: frames, the superblock, the greatest epoch. No program is walked here. -/
import Derived.Test.YtlhnhhjpjkgogaaWOpen
import Derived.Test.YtlhnhhjpjkgogaaWNeed
import Derived.Test.YtlhnhhjpjkgogaaWParse
import Derived.Test.YtlhnhhjpjkgogaaWVis
import Derived.Test.YtlhnhhjpjkgogaaDCrash
import Derived.Test.YtlhnhhjpjkgogaaWEx
namespace Go.Proofs.Ytlhnhhjpjkgogaa.wl
open Go.RowKit Go.Proofs.Ytlhnhhjpjkgogaa.agg Go.Proofs.Ytlhnhhjpjkgogaa.dk
set_option linter.unusedSimpArgs false
set_option linter.unusedVariables false

def runA (A : Nat → Option Fr) : Nat → Nat → Op' → Op'
  | 0, _, o => o
  | t + 1, i, o => if breaks (A i) i o = true then o else runA A t (i + 1) (o.next ((A i).getD Fr.none) i)
theorem openRun_runA (m : List (Nat × Fr)) (pl : Nat → Int) : ∀ t i o, openRun m pl t i o = runA (fun i => getFr m (pl i)) t i o
  | 0, _, _ => rfl
  | t + 1, i, o => by rw [openRun, runA, openRun_runA m pl t]
theorem runA_break {A : Nat → Option Fr} {t i : Nat} {o : Op'} (h : breaks (A i) i o = true) : runA A t i o = o := by
  cases t with
  | zero => rfl
  | succ t => rw [runA, if_pos h]
theorem runA_next {A : Nat → Option Fr} {t i : Nat} {o : Op'} {f : Fr} (hf : A i = some f) (h : breaks (A i) i o = false) : runA A (t + 1) i o = runA A t (i + 1) (o.next f i) := by
  rw [runA, if_neg (by simp [h]), hf]
  rfl
theorem nextE {o : Op'} {f : Fr} {i : Nat} (h : ends f.kind = true) : o.next f i = ⟨o.recs ++ [o.part ++ f.data], f.epoch, ⟨#[]⟩, false, i + 1⟩ := by unfold Op'.next; rw [if_pos h]
theorem nextM {o : Op'} {f : Fr} {i : Nat} (h : ends f.kind = false) : o.next f i = ⟨o.recs, f.epoch, o.part ++ f.data, true, o.fin⟩ := by unfold Op'.next; rw [if_neg (by simp [h])]
/-- What was read stays. -/
theorem runA_front (A : Nat → Option Fr) : ∀ t i o, ∃ X, (runA A t i o).recs = o.recs ++ X
  | 0, _, o => ⟨[], by simp [runA]⟩
  | t + 1, i, o => by
    rw [runA]
    split
    · exact ⟨[], by simp⟩
    · obtain ⟨X, hX⟩ := runA_front A t (i + 1) (o.next ((A i).getD Fr.none) i)
      cases he : ends ((A i).getD Fr.none).kind
      · rw [nextM he] at hX ⊢
        exact ⟨X, hX⟩
      · rw [nextE he] at hX ⊢
        exact ⟨_, by rw [hX, List.append_assoc]⟩
/-- The records and the place are handed on. -/
theorem breaks_same (r : Option Fr) (i : Nat) (o o' : Op') (h1 : o.epoch = o'.epoch) (h2 : o.opn = o'.opn) : breaks r i o = breaks r i o' := by
  unfold breaks
  rw [h1, h2]
theorem runA_shift (A : Nat → Option Fr) : ∀ t i (rs rs' : List ByteArray) (e : Int) (pt : ByteArray) (op : Bool) (fin fin' : Int) (X : List ByteArray), (runA A t i ⟨rs, e, pt, op, fin⟩).recs = rs ++ X → (runA A t i ⟨rs', e, pt, op, fin'⟩).recs = rs' ++ X
  | 0, i, rs, rs', e, pt, op, fin, fin', X, h => by
    have : X = [] := by simpa [runA] using h
    simp [runA, this]
  | t + 1, i, rs, rs', e, pt, op, fin, fin', X, h => by
    rw [runA] at h ⊢
    rw [breaks_same (A i) i ⟨rs', e, pt, op, fin'⟩ ⟨rs, e, pt, op, fin⟩ rfl rfl]
    split at h
    · rename_i hb
      have : X = [] := by simpa using h
      rw [if_pos hb, this]
      simp
    · rename_i hb
      rw [if_neg hb]
      cases he : ends ((A i).getD Fr.none).kind
      · rw [nextM he] at h ⊢
        exact runA_shift A t (i + 1) rs rs' _ _ true fin fin' X h
      · rw [nextE he] at h ⊢
        obtain ⟨Y, hY⟩ := runA_front A t (i + 1) ⟨rs ++ [pt ++ ((A i).getD Fr.none).data], ((A i).getD Fr.none).epoch, ⟨#[]⟩, false, (i : Int) + 1⟩
        rw [hY] at h
        have hX : X = [pt ++ ((A i).getD Fr.none).data] ++ Y := by
          rw [List.append_assoc] at h
          exact (List.append_cancel_left h).symm
        have := runA_shift A t (i + 1) _ (rs' ++ [pt ++ ((A i).getD Fr.none).data]) _ _ false ((i : Int) + 1) ((i : Int) + 1) Y hY
        rw [this, hX, List.append_assoc]
/-- Where nothing is read, the place stays. -/
theorem runA_fin (A : Nat → Option Fr) : ∀ t i o, (runA A t i o).recs = o.recs → (runA A t i o).fin = o.fin
  | 0, _, _, _ => rfl
  | t + 1, i, o, h => by
    rw [runA] at h ⊢
    split at h
    · rename_i hb; rw [if_pos hb]
    · rename_i hb
      rw [if_neg hb]
      cases he : ends ((A i).getD Fr.none).kind
      · rw [nextM he] at h ⊢
        exact runA_fin A t (i + 1) ⟨o.recs, _, _, true, o.fin⟩ h
      · rw [nextE he] at h
        obtain ⟨X, hX⟩ := runA_front A t (i + 1) ⟨o.recs ++ [o.part ++ ((A i).getD Fr.none).data], ((A i).getD Fr.none).epoch, ⟨#[]⟩, false, (i : Int) + 1⟩
        rw [hX] at h
        have := congrArg List.length h
        simp at this
/-- Nothing more is read from a place on. -/
def Stops (A : Nat → Option Fr) (e : Int) (p t : Nat) : Prop := (runA A t p ⟨[], e, ⟨#[]⟩, false, 0⟩).recs = []
theorem Stops.run {A : Nat → Option Fr} {e : Int} {p t : Nat} (h : Stops A e p t) (rs : List ByteArray) (fin : Int) : (runA A t p ⟨rs, e, ⟨#[]⟩, false, fin⟩).recs = rs ∧ (runA A t p ⟨rs, e, ⟨#[]⟩, false, fin⟩).fin = fin := by
  have h1 := runA_shift A t p [] rs e ⟨#[]⟩ false 0 fin [] h
  rw [List.append_nil] at h1
  exact ⟨h1, runA_fin A t p _ h1⟩
theorem Stops.of {A : Nat → Option Fr} {e : Int} {p t : Nat} {rs : List ByteArray} {fin : Int} (h : (runA A t p ⟨rs, e, ⟨#[]⟩, false, fin⟩).recs = rs) : Stops A e p t := by
  have := runA_shift A t p rs [] e ⟨#[]⟩ false fin 0 [] (by rw [h, List.append_nil])
  exact this
theorem Stops.first {A : Nat → Option Fr} {e : Int} {p t : Nat} (h : ∀ f, A p = some f → f.epoch < e) : Stops A e p t := by
  unfold Stops
  rw [runA_break]
  cases hA : A p with
  | none => rfl
  | some f =>
    have := h f hA
    unfold breaks
    simp [this]

/-- A record that lies there whole is read. -/
theorem chunk_more (r : ByteArray) (j : Nat) (hj : 50 * j ≤ r.size) : r.extract 0 (50 * j) ++ chunk r j = r.extract 0 (min (50 * (j + 1)) r.size) := by
  unfold chunk
  rw [ByteArray.extract_append_extract]
  congr 1
  omega
theorem read_part {A : Nat → Option Fr} {r : ByteArray} {e : Int} {p : Nat} : ∀ (c j t : Nat) (rs : List ByteArray) (fin : Int), j + c = nfr r → 0 < c → 0 < j → (∀ i, j ≤ i → i < nfr r → A (p + i) = some (frameAt r e p i)) →
    runA A (c + t) (p + j) ⟨rs, e, r.extract 0 (50 * j), true, fin⟩ = runA A t (p + nfr r) ⟨rs ++ [r], e, ⟨#[]⟩, false, ((p + nfr r : Nat) : Int)⟩
  | 0, _, _, _, _, _, h, _, _ => by omega
  | c + 1, j, t, rs, fin, hjc, _, hj, hA => by
    have hjn : j < nfr r := by omega
    have h1 := hA j (Nat.le_refl _) hjn
    have hkind : (frameAt r e p j).kind = if j + 1 = nfr r then 2 else 4 := by
      unfold frameAt kindOf
      simp only
      rw [if_neg (by omega), if_neg (by omega)]
    have hbr : breaks (A (p + j)) (p + j) ⟨rs, e, r.extract 0 (50 * j), true, fin⟩ = false := by
      rw [h1]
      unfold breaks begins
      simp only [hkind]
      have e1 : (frameAt r e p j).pos = ((p + j : Nat) : Int) := by unfold frameAt; simp only; omega
      have e2 : (frameAt r e p j).epoch = e := rfl
      rw [e1, e2]
      split <;> simp
    have hsz : 50 * j ≤ r.size := by unfold nfr at hjn; omega
    rw [show c + 1 + t = (c + t) + 1 by omega, runA_next h1 hbr]
    by_cases hl : j + 1 = nfr r
    · have hc0 : c = 0 := by omega
      subst hc0
      rw [if_pos hl] at hkind
      have hen : ends (frameAt r e p j).kind = true := by rw [hkind]; rfl
      rw [nextE hen, Nat.zero_add]
      have hd : r.extract 0 (50 * j) ++ (frameAt r e p j).data = r := by
        show r.extract 0 (50 * j) ++ chunk r j = r
        rw [chunk_more r j hsz, show min (50 * (j + 1)) r.size = r.size by unfold nfr at hl; omega, ByteArray.extract_zero_size]
      simp only
      rw [hd, show p + j + 1 = p + nfr r by omega]
      congr 2
      omega
    · rw [if_neg hl] at hkind
      have hen : ends (frameAt r e p j).kind = false := by rw [hkind]; rfl
      rw [nextM hen]
      have hd : r.extract 0 (50 * j) ++ (frameAt r e p j).data = r.extract 0 (50 * (j + 1)) := by
        show r.extract 0 (50 * j) ++ chunk r j = _
        rw [chunk_more r j hsz, show min (50 * (j + 1)) r.size = 50 * (j + 1) by unfold nfr at hl hjn; omega]
      simp only
      rw [hd]
      exact read_part c (j + 1) t rs fin (by omega) (by omega) (by omega) (fun i h2 h3 => hA i (by omega) h3)
theorem read_one {A : Nat → Option Fr} {r : ByteArray} {e e0 : Int} {p t : Nat} (rs : List ByteArray) (fin : Int) (hA : ∀ i, i < nfr r → A (p + i) = some (frameAt r e p i)) (he : e0 ≤ e) :
    runA A (nfr r + t) p ⟨rs, e0, ⟨#[]⟩, false, fin⟩ = runA A t (p + nfr r) ⟨rs ++ [r], e, ⟨#[]⟩, false, ((p + nfr r : Nat) : Int)⟩ := by
  have hn : 1 ≤ nfr r := by unfold nfr; omega
  have h1 := hA 0 (by omega)
  rw [Nat.add_zero] at h1
  have hkind : (frameAt r e p 0).kind = if nfr r = 1 then 3 else 1 := by
    unfold frameAt kindOf
    simp only
    split
    · rfl
    · simp
  have hbr : breaks (A p) p ⟨rs, e0, ⟨#[]⟩, false, fin⟩ = false := by
    rw [h1]
    unfold breaks begins
    simp only [hkind]
    have e1 : (frameAt r e p 0).pos = (p : Int) := by unfold frameAt; simp
    have e2 : (frameAt r e p 0).epoch = e := rfl
    have e3 : ¬ e < e0 := by omega
    rw [e1, e2]
    split <;> simp [e3]
  obtain ⟨c, hc⟩ : ∃ c, nfr r = c + 1 := ⟨nfr r - 1, by omega⟩
  rw [show nfr r + t = (c + t) + 1 by omega, runA_next h1 hbr]
  by_cases hl : nfr r = 1
  · have hc0 : c = 0 := by omega
    subst hc0
    rw [if_pos hl] at hkind
    have hen : ends (frameAt r e p 0).kind = true := by rw [hkind]; rfl
    rw [nextE hen, Nat.zero_add]
    have hd : (⟨#[]⟩ : ByteArray) ++ (frameAt r e p 0).data = r := by
      show (⟨#[]⟩ : ByteArray) ++ chunk r 0 = r
      have h0 : (⟨#[]⟩ : ByteArray) = r.extract 0 (50 * 0) := by simp; rfl
      rw [h0, chunk_more r 0 (by omega), show min (50 * (0 + 1)) r.size = r.size by unfold nfr at hl; omega, ByteArray.extract_zero_size]
    simp only
    rw [hd, hl]
    rfl
  · rw [if_neg hl] at hkind
    have hen : ends (frameAt r e p 0).kind = false := by rw [hkind]; rfl
    rw [nextM hen]
    have hd : (⟨#[]⟩ : ByteArray) ++ (frameAt r e p 0).data = r.extract 0 (50 * 1) := by
      show (⟨#[]⟩ : ByteArray) ++ chunk r 0 = _
      have h0 : (⟨#[]⟩ : ByteArray) = r.extract 0 (50 * 0) := by simp; rfl
      rw [h0, chunk_more r 0 (by omega), show min (50 * (0 + 1)) r.size = 50 * 1 by unfold nfr at hl; omega]
    simp only
    rw [hd]
    exact read_part c 1 t rs fin (by omega) (by omega) (by omega) (fun i _ h3 => hA i h3)
end Go.Proofs.Ytlhnhhjpjkgogaa.wl
namespace Go.Proofs.Ytlhnhhjpjkgogaa.wl
open Go.RowKit Go.Proofs.Ytlhnhhjpjkgogaa.agg Go.Proofs.Ytlhnhhjpjkgogaa.dk
set_option linter.unusedSimpArgs false
set_option linter.unusedVariables false

theorem read_front {A : Nat → Option Fr} {r : ByteArray} {e e0 : Int} {p t : Nat} (rs : List ByteArray) (fin : Int) (he : e0 ≤ e) : ∀ j, 1 ≤ j → j < nfr r → (∀ i, i < j → A (p + i) = some (frameAt r e p i)) →
    runA A (j + t) p ⟨rs, e0, ⟨#[]⟩, false, fin⟩ = runA A t (p + j) ⟨rs, e, r.extract 0 (50 * j), true, fin⟩
  | 0, h, _, _ => by omega
  | j + 1, _, hn, hA => by
    by_cases hj0 : j = 0
    · subst hj0
      have h1 := hA 0 (by omega)
      rw [Nat.add_zero] at h1
      have hkind : (frameAt r e p 0).kind = 1 := by
        unfold frameAt kindOf
        simp only
        rw [if_neg (by omega)]
        simp
      have hbr : breaks (A p) p ⟨rs, e0, ⟨#[]⟩, false, fin⟩ = false := by
        rw [h1]
        unfold breaks begins
        simp only [hkind]
        have e1 : (frameAt r e p 0).pos = (p : Int) := by unfold frameAt; simp
        have e2 : (frameAt r e p 0).epoch = e := rfl
        have e3 : ¬ e < e0 := by omega
        rw [e1, e2]
        simp [e3]
      rw [show 0 + 1 + t = t + 1 by omega, runA_next h1 hbr, nextM (by rw [hkind]; rfl)]
      have hd : (⟨#[]⟩ : ByteArray) ++ (frameAt r e p 0).data = r.extract 0 (50 * 1) := by
        show (⟨#[]⟩ : ByteArray) ++ chunk r 0 = _
        have h0 : (⟨#[]⟩ : ByteArray) = r.extract 0 (50 * 0) := by simp; rfl
        rw [h0, chunk_more r 0 (by omega), show min (50 * (0 + 1)) r.size = 50 * 1 by unfold nfr at hn; omega]
      simp only
      rw [hd]
      rfl
    · have ih := read_front (t := t + 1) rs fin he j (by omega) (by omega) (fun i hi => hA i (by omega))
      rw [show j + 1 + t = j + (t + 1) by omega, ih]
      have h1 := hA j (by omega)
      have hkind : (frameAt r e p j).kind = 4 := by
        unfold frameAt kindOf
        simp only
        rw [if_neg (by omega), if_neg hj0, if_neg (by omega)]
      have hbr : breaks (A (p + j)) (p + j) ⟨rs, e, r.extract 0 (50 * j), true, fin⟩ = false := by
        rw [h1]
        unfold breaks begins
        simp only [hkind]
        have e1 : (frameAt r e p j).pos = ((p + j : Nat) : Int) := by unfold frameAt; simp only; omega
        have e2 : (frameAt r e p j).epoch = e := rfl
        rw [e1, e2]
        simp
      rw [runA_next h1 hbr, nextM (by rw [hkind]; rfl)]
      have hd : r.extract 0 (50 * j) ++ (frameAt r e p j).data = r.extract 0 (50 * (j + 1)) := by
        show r.extract 0 (50 * j) ++ chunk r j = _
        rw [chunk_more r j (by unfold nfr at hn; omega), show min (50 * (j + 1)) r.size = 50 * (j + 1) by unfold nfr at hn; omega]
      simp only
      rw [hd]
      rfl
/-- Old frames, of which some are gone or stand under newer ones: where nothing was read, nothing is. -/
theorem mix {O C : Nat → Option Fr} {E : Int} : ∀ t i o, (∀ k, i ≤ k → C k = O k ∨ C k = none ∨ ∃ f, C k = some f ∧ f.epoch = E) → (∀ k, i ≤ k → ∀ g, O k = some g → g.epoch < E) → o.opn = true → o.epoch < E → (runA O t i o).recs = o.recs → (runA C t i o).recs = o.recs
  | 0, _, _, _, _, _, _, _ => rfl
  | t + 1, i, o, hC, hO, hop, hep, hr => by
    rcases hC i (Nat.le_refl _) with h | h | ⟨f, h, hf⟩
    · rw [runA] at hr ⊢
      rw [h]
      split at hr
      · rename_i hb; rw [if_pos hb]
      · rename_i hb
        rw [if_neg hb]
        cases hg : O i with
        | none => rw [hg] at hb; simp [breaks] at hb
        | some g =>
          rw [hg] at hr
          simp only [Option.getD_some] at hr ⊢
          cases he : ends g.kind
          · rw [nextM he] at hr ⊢
            exact mix t (i + 1) ⟨o.recs, g.epoch, o.part ++ g.data, true, o.fin⟩ (fun k hk => hC k (by omega)) (fun k hk => hO k (by omega)) rfl (hO i (Nat.le_refl _) g hg) hr
          · rw [nextE he] at hr
            obtain ⟨X, hX⟩ := runA_front O t (i + 1) ⟨o.recs ++ [o.part ++ g.data], g.epoch, ⟨#[]⟩, false, (i : Int) + 1⟩
            rw [hX] at hr
            have := congrArg List.length hr
            simp at this
    · rw [runA_break (by rw [h]; rfl)]
    · rw [runA_break]
      rw [h]
      unfold breaks
      have : f.epoch ≠ o.epoch := by omega
      simp [hop, this]
theorem mix0 {O C : Nat → Option Fr} {E : Int} {t p : Nat} {e : Int} (rs : List ByteArray) (fin : Int) (hp : C p = O p ∨ C p = none) (hC : ∀ k, p ≤ k → C k = O k ∨ C k = none ∨ ∃ f, C k = some f ∧ f.epoch = E) (hO : ∀ k, p ≤ k → ∀ g, O k = some g → g.epoch < E) (hs : Stops O e p t) : (runA C t p ⟨rs, e, ⟨#[]⟩, false, fin⟩).recs = rs := by
  have hr := (hs.run rs fin).1
  cases t with
  | zero => rfl
  | succ t =>
    rcases hp with h | h
    · rw [runA] at hr ⊢
      rw [h]
      split at hr
      · rename_i hb; rw [if_pos hb]
      · rename_i hb
        rw [if_neg hb]
        cases hg : O p with
        | none => rw [hg] at hb; simp [breaks] at hb
        | some g =>
          rw [hg] at hr
          simp only [Option.getD_some] at hr ⊢
          cases he : ends g.kind
          · rw [nextM he] at hr ⊢
            exact mix t (p + 1) ⟨rs, g.epoch, _, true, fin⟩ (fun k hk => hC k (by omega)) (fun k hk => hO k (by omega)) rfl (hO p (Nat.le_refl _) g hg) hr
          · rw [nextE he] at hr
            obtain ⟨X, hX⟩ := runA_front O t (p + 1) ⟨rs ++ [(⟨#[]⟩ : ByteArray) ++ g.data], g.epoch, ⟨#[]⟩, false, (p : Int) + 1⟩
            rw [hX] at hr
            have := congrArg List.length hr
            simp at this
    · rw [runA_break (by rw [h]; rfl)]
/-- The frames of records, by their positions. -/
def newAt : List ByteArray → Int → Nat → Nat → Option Fr
  | [], _, _, _ => none
  | r :: M, E, p, i => if i < p + nfr r then some (frameAt r E p (i - p)) else newAt M E (p + nfr r) i
theorem newAt_epoch : ∀ (M : List ByteArray) (E : Int) (p i : Nat) (f : Fr), newAt M E p i = some f → f.epoch = E
  | [], _, _, _, _, h => by simp [newAt] at h
  | r :: M, E, p, i, f, h => by
    rw [newAt] at h
    split at h
    · rw [← Option.some.inj h]; rfl
    · exact newAt_epoch M E _ i f h
/-- Records that lie whole in an area. -/
def Holds (A : Nat → Option Fr) : List (ByteArray × Int) → Nat → Prop
  | [], _ => True
  | x :: T, p => (∀ i, i < nfr x.1 → A (p + i) = some (frameAt x.1 x.2 p i)) ∧ Holds A T (p + nfr x.1)
def tagsOk : Int → List (ByteArray × Int) → Int → Prop
  | e, [], E => e ≤ E
  | e, x :: T, E => e ≤ x.2 ∧ tagsOk x.2 T E
def lastTag : Int → List (ByteArray × Int) → Int
  | e, [] => e
  | _, x :: T => lastTag x.2 T
theorem read_all {A : Nat → Option Fr} : ∀ (T : List (ByteArray × Int)) (p t : Nat) (rs : List ByteArray) (e E fin : Int), Holds A T p → tagsOk e T E →
    ∃ fin', runA A (needN (T.map (·.1)) + t) p ⟨rs, e, ⟨#[]⟩, false, fin⟩ = runA A t (p + needN (T.map (·.1))) ⟨rs ++ T.map (·.1), lastTag e T, ⟨#[]⟩, false, fin'⟩ ∧ (T = [] → fin' = fin) ∧ (T ≠ [] → fin' = ((p + needN (T.map (·.1)) : Nat) : Int))
  | [], p, t, rs, e, E, fin, _, _ => ⟨fin, by simp [needN, lastTag], fun _ => rfl, fun h => absurd rfl h⟩
  | x :: T, p, t, rs, e, E, fin, hA, hT => by
    obtain ⟨fin', h1, h2, h3⟩ := read_all T (p + nfr x.1) t (rs ++ [x.1]) x.2 E ((p + nfr x.1 : Nat) : Int) hA.2 hT.2
    have en : needN ((x :: T).map (·.1)) = nfr x.1 + needN (T.map (·.1)) := by simp [needN]
    refine ⟨fin', ?_, fun h => by simp at h, fun _ => ?_⟩
    · rw [en, Nat.add_assoc, read_one rs fin hA.1 hT.1, h1, ← Nat.add_assoc]
      simp only [List.map_cons, lastTag, List.append_assoc, List.singleton_append]
    · by_cases hTn : T = []
      · rw [h2 hTn, en, hTn]
        simp [needN]
      · rw [h3 hTn, en, Nat.add_assoc]
/-- The law of a torn area. -/
theorem torn_read {O C : Nat → Option Fr} {E : Int} : ∀ (M : List ByteArray) (p t : Nat) (rs : List ByteArray) (e fin : Int), e ≤ E → (∀ i, p ≤ i → C i = O i ∨ C i = none ∨ ∃ f, newAt M E p i = some f ∧ C i = some f) → (∀ i, p ≤ i → ∀ g, O i = some g → g.epoch < E) → Stops O e p t → needN M ≤ t →
    ∃ q, q ≤ M.length ∧ ∃ e', e ≤ e' ∧ e' ≤ E ∧ (q = 0 → e' = e) ∧ (q ≠ 0 → e' = E) ∧ Holds C ((M.take q).map (fun r => (r, E))) p ∧ Stops C e' (p + needN (M.take q)) (t - needN (M.take q)) ∧
      (runA C t p ⟨rs, e, ⟨#[]⟩, false, fin⟩).recs = rs ++ M.take q ∧ (runA C t p ⟨rs, e, ⟨#[]⟩, false, fin⟩).fin = if q = 0 then fin else ((p + needN (M.take q) : Nat) : Int)
  | [], p, t, rs, e, fin, he, hC, hO, hs, _ => by
    have hC' : ∀ k, p ≤ k → C k = O k ∨ C k = none ∨ ∃ f, C k = some f ∧ f.epoch = E := fun k hk => by
      rcases hC k hk with h | h | ⟨f, h, _⟩
      · exact .inl h
      · exact .inr (.inl h)
      · simp [newAt] at h
    have hp : C p = O p ∨ C p = none := by
      rcases hC p (Nat.le_refl _) with h | h | ⟨f, h, _⟩
      · exact .inl h
      · exact .inr h
      · simp [newAt] at h
    have hr := mix0 rs fin hp hC' hO hs
    refine ⟨0, Nat.le_refl _, e, Int.le_refl _, he, fun _ => rfl, fun h => absurd rfl h, trivial, ?_, by simpa using hr, ?_⟩
    · simp only [List.take_nil, needN, List.map_nil, List.sum_nil, Nat.add_zero, Nat.sub_zero]
      exact Stops.of hr
    · rw [if_pos rfl]; exact runA_fin C t p _ hr
  | r :: M, p, t, rs, e, fin, he, hC, hO, hs, ht => by
    have hn : 1 ≤ nfr r := by unfold nfr; omega
    have en : needN (r :: M) = nfr r + needN M := by simp [needN]
    have hC' : ∀ k, p ≤ k → C k = O k ∨ C k = none ∨ ∃ f, C k = some f ∧ f.epoch = E := fun k hk => by
      rcases hC k hk with h | h | ⟨f, h, h2⟩
      · exact .inl h
      · exact .inr (.inl h)
      · exact .inr (.inr ⟨f, h2, newAt_epoch _ _ _ _ _ h⟩)
    by_cases hall : ∀ i, i < nfr r → C (p + i) = some (frameAt r E p i)
    · obtain ⟨t', rfl⟩ : ∃ t', t = nfr r + t' := ⟨t - nfr r, by omega⟩
      obtain ⟨q, hq, e', k1, k2, k3, k4, k5, k6, k7, k8⟩ := torn_read M (p + nfr r) t' (rs ++ [r]) E ((p + nfr r : Nat) : Int) (Int.le_refl _) (fun i hi => by
        rcases hC i (by omega) with h | h | ⟨f, h, h2⟩
        · exact .inl h
        · exact .inr (.inl h)
        · rw [newAt, if_neg (by omega)] at h
          exact .inr (.inr ⟨f, h, h2⟩)) (fun i hi => hO i (by omega)) (Stops.first (fun g hg => hO _ (by omega) g hg)) (by omega)
      have hE : e' = E := by
        by_cases h0 : q = 0
        · exact k3 h0
        · exact k4 h0
      have etk : (r :: M).take (q + 1) = r :: M.take q := rfl
      have en2 : needN (r :: M.take q) = nfr r + needN (M.take q) := by simp [needN]
      refine ⟨q + 1, by simp; omega, E, he, Int.le_refl _, fun h => by omega, fun _ => rfl, ?_, ?_, ?_, ?_⟩
      · rw [etk]
        exact ⟨hall, k5⟩
      · rw [etk, en2, ← Nat.add_assoc, Nat.add_sub_add_left, ← hE]
        exact k6
      · rw [read_one rs fin hall he, k7, etk, List.append_assoc]
        rfl
      · rw [read_one rs fin hall he, k8, if_neg (show ¬ (q + 1 = 0) by omega), etk, en2]
        split
        · rename_i h0
          rw [h0]
          simp [needN]
        · rw [Nat.add_assoc]
    · have hr : (runA C t p ⟨rs, e, ⟨#[]⟩, false, fin⟩).recs = rs := by
        -- the first frame of the record that is not there
        have hex : ∃ j, j < nfr r ∧ C (p + j) ≠ some (frameAt r E p j) ∧ ∀ i, i < j → C (p + i) = some (frameAt r E p i) := by
          have hgen : ∀ n, n ≤ nfr r → (∀ i, i < n → C (p + i) = some (frameAt r E p i)) ∨ ∃ j, j < n ∧ C (p + j) ≠ some (frameAt r E p j) ∧ ∀ i, i < j → C (p + i) = some (frameAt r E p i) := by
            intro n
            induction n with
            | zero => intro _; exact .inl (fun i hi => by omega)
            | succ n ih =>
              intro hle
              rcases ih (by omega) with h | ⟨j, h1, h2, h3⟩
              · by_cases hc : C (p + n) = some (frameAt r E p n)
                · refine .inl (fun i hi => ?_)
                  by_cases hin : i = n
                  · rw [hin]; exact hc
                  · exact h i (by omega)
                · exact .inr ⟨n, by omega, hc, h⟩
              · exact .inr ⟨j, by omega, h2, h3⟩
          rcases hgen (nfr r) (Nat.le_refl _) with h | h
          · exact absurd h hall
          · exact h
        obtain ⟨j, hj, hne, hb⟩ := hex
        have hat : C (p + j) = O (p + j) ∨ C (p + j) = none := by
          rcases hC (p + j) (by omega) with h | h | ⟨f, h, h2⟩
          · exact .inl h
          · exact .inr h
          · rw [newAt, if_pos (by omega), show p + j - p = j by omega] at h
            rw [h2, ← h] at hne
            exact absurd rfl hne
        by_cases hj0 : j = 0
        · subst hj0
          exact mix0 rs fin hat hC' hO hs
        · obtain ⟨t', rfl⟩ : ∃ t', t = j + t' := ⟨t - j, by omega⟩
          rw [read_front rs fin he j (by omega) hj hb, runA_break]
          rcases hat with h | h
          · rw [h]
            cases hg : O (p + j) with
            | none => rfl
            | some g =>
              have := hO (p + j) (by omega) g hg
              unfold breaks
              simp [this]
          · rw [h]; rfl
      refine ⟨0, Nat.zero_le _, e, Int.le_refl _, he, fun _ => rfl, fun h => absurd rfl h, trivial, ?_, by simpa using hr, ?_⟩
      · simp only [List.take_zero, needN, List.map_nil, List.sum_nil, Nat.add_zero, Nat.sub_zero]
        exact Stops.of hr
      · rw [if_pos rfl]; exact runA_fin C t p _ hr
end Go.Proofs.Ytlhnhhjpjkgogaa.wl
namespace Go.Proofs.Ytlhnhhjpjkgogaa.wl
open Go.RowKit Go.Proofs.Ytlhnhhjpjkgogaa.agg Go.Proofs.Ytlhnhhjpjkgogaa.dk

/-- A frame that a sector can hold. -/
structure Fr.Good (f : Fr) : Prop where
  epoch : 1 ≤ f.epoch ∧ f.epoch < 4294967296
  pos : 0 ≤ f.pos ∧ f.pos < 65536
  kind : 1 ≤ f.kind ∧ f.kind ≤ 4
  data : f.data.size ≤ 50
theorem be4 (n : Int) : be 4 n = [byteAt n 3, byteAt n 2, byteAt n 1, byteAt n 0] := rfl
theorem be2 (n : Int) : be 2 n = [byteAt n 1, byteAt n 0] := rfl
theorem num_be4 (n : Int) (h : 0 ≤ n ∧ n < 4294967296) : num (be 4 n) = n := by
  rw [be4]
  unfold byteAt
  simp only [num, List.foldl_cons, List.foldl_nil]
  omega
theorem num_be2 (n : Int) (h : 0 ≤ n ∧ n < 65536) : num (be 2 n) = n := by
  rw [be2]
  unfold byteAt
  simp only [num, List.foldl_cons, List.foldl_nil]
  omega
theorem byteAt_rng (n : Int) (j : Nat) : 0 ≤ byteAt n j ∧ byteAt n j < 256 := by unfold byteAt; omega
theorem be_rng (k : Nat) (n : Int) : ∀ c ∈ be k n, 0 ≤ c ∧ c < 256 := by
  intro c hc
  simp only [be, List.mem_map] at hc
  obtain ⟨i, _, rfl⟩ := hc
  exact byteAt_rng _ _
theorem Fr.Good.isSec {f : Fr} (h : f.Good) : IsSec f.sec := by
  refine ⟨f.length_sec h.data, ?_⟩
  have hh : ∀ c ∈ f.head, 0 ≤ c ∧ c < 256 := by
    intro c hc
    rcases List.mem_append.1 hc with hc | hc
    · exact be_rng _ _ c hc
    · exact be_rng _ _ c hc
  intro c hc
  rcases List.mem_append.1 hc with hc | hc
  · rcases List.mem_append.1 hc with hc | hc
    · exact hh c hc
    · rcases List.mem_append.1 hc with hc | hc
      · have h1 := h.kind
        have h2 := h.data
        simp at hc
        omega
      · rcases List.mem_append.1 hc with hc | hc
        · exact bts_range _ c hc
        · have := List.eq_of_mem_replicate hc
          omega
  · exact hh c hc
theorem sec_parts (f : Fr) : f.sec.take 4 = be 4 f.epoch ∧ (f.sec.drop 4).take 2 = be 2 f.pos ∧ f.sec.getD 6 0 = f.kind % 256 ∧ f.sec.getD 7 0 = f.data.size ∧ (f.sec.drop 8).take f.data.size = bts f.data := by
  have e : f.sec = be 4 f.epoch ++ (be 2 f.pos ++ (f.kind % 256 :: (f.data.size : Int) :: (bts f.data ++ (List.replicate (50 - f.data.size) 0 ++ f.head)))) := by
    unfold Fr.sec Fr.body
    conv => lhs; arg 1; arg 1; unfold Fr.head
    simp [List.append_assoc]
  rw [e, be4, be2]
  refine ⟨rfl, rfl, rfl, rfl, ?_⟩
  show (bts f.data ++ _).take f.data.size = _
  rw [← length_bts, List.take_left]
theorem parse_sec {f : Fr} (h : f.Good) : parseFr f.sec = (f, true) := by
  obtain ⟨p1, p2, p3, p4, p5⟩ := sec_parts f
  unfold parseFr
  rw [p1, p2, p3, p4, Int.toNat_natCast, p5, num_be4 _ (by have := h.epoch; omega), num_be2 _ h.pos, show f.kind % 256 = f.kind by have := h.kind; omega, strOf_bts]
  rw [if_neg (by have := h.epoch; have := h.kind; have := h.data; omega)]
  simp
theorem parse_true {s : List Int} {f : Fr} (h : parseFr s = (f, true)) : f.sec = s := by
  unfold parseFr at h
  split at h
  · simp at h
  · simp only [Prod.mk.injEq, decide_eq_true_eq] at h
    rw [← h.1]
    exact h.2
/-- A front of b over a. -/
def torn (a b : List Int) (k : Nat) : List Int := b.take k ++ a.drop k
theorem head_inj {f g : Fr} (hf : f.Good) (hg : g.Good) (h : f.head = g.head) : f.epoch = g.epoch ∧ f.pos = g.pos := by
  have h1 := congrArg (fun l => num (l.take 4)) h
  have h2 := congrArg (fun l => num (l.drop 4)) h
  simp only [Fr.head] at h1 h2
  rw [List.take_left' (length_be _ _), List.take_left' (length_be _ _), num_be4 _ (by have := hf.epoch; omega), num_be4 _ (by have := hg.epoch; omega)] at h1
  rw [List.drop_left' (length_be _ _), List.drop_left' (length_be _ _), num_be2 _ hf.pos, num_be2 _ hg.pos] at h2
  exact ⟨h1, h2⟩
theorem sec_head (f : Fr) : f.sec.take 6 = f.head := by unfold Fr.sec; rw [List.append_assoc]; exact take_head f _
theorem sec_tail (f : Fr) (h : f.data.size ≤ 50) : f.sec.drop 58 = f.head := by
  unfold Fr.sec
  rw [List.drop_left' (by simp [f.length_head, f.length_body h])]
/-- What is a frame of a torn sector is the old one or the new one. -/
theorem torn_frame {f g x : Fr} (hf : f.Good) (hg : g.Good) (hne : ¬ (f.epoch = g.epoch ∧ f.pos = g.pos)) (hx : x.data.size ≤ 50) (k : Nat) (hk : k ≤ 64) (h : x.sec = torn f.sec g.sec k) :
    x.sec = f.sec ∨ x.sec = g.sec := by
  have lf := f.length_sec hf.data
  have lg := g.length_sec hg.data
  have hh : f.head ≠ g.head := fun e => hne (head_inj hf hg e)
  have t1 := sec_head x
  have t2 := sec_tail x hx
  by_cases h58 : k ≤ 58
  · -- the tail is the old one's
    have e2 : x.head = f.head := by
      rw [← t2, ← sec_tail f hf.data, h]
      unfold torn
      rw [List.drop_append, List.drop_eq_nil_of_le (by simp; omega), List.nil_append, List.drop_drop]
      congr 1
      simp
      omega
    by_cases h6 : k < 6
    · left
      rw [← List.take_append_drop 6 x.sec, ← List.take_append_drop 6 f.sec, t1, e2, ← sec_head f]
      congr 1
      rw [h]
      unfold torn
      rw [List.drop_append, List.drop_eq_nil_of_le (by simp; omega), List.nil_append, List.drop_drop]
      congr 1
      simp
      omega
    · exfalso
      refine hh ?_
      rw [← e2, ← t1, ← sec_head g, h]
      unfold torn
      rw [List.take_append_of_le_length (by simp; omega), List.take_take, Nat.min_eq_left (by omega)]
  · -- the head is the new one's
    right
    have e2 : x.head = g.head := by
      rw [← t1, ← sec_head g, h]
      unfold torn
      rw [List.take_append_of_le_length (by simp; omega), List.take_take, Nat.min_eq_left (by omega)]
    rw [← List.take_append_drop 58 x.sec, ← List.take_append_drop 58 g.sec, t2, e2, ← sec_tail g hg.data]
    congr 1
    rw [h]
    unfold torn
    rw [List.take_append_of_le_length (by simp; omega), List.take_take, Nat.min_eq_left (by omega)]
end Go.Proofs.Ytlhnhhjpjkgogaa.wl
namespace Go.Proofs.Ytlhnhhjpjkgogaa.wl
open Go.RowKit Go.Proofs.Ytlhnhhjpjkgogaa.agg Go.Proofs.Ytlhnhhjpjkgogaa.dk
set_option linter.unusedSimpArgs false
set_option linter.unusedVariables false

theorem getD_take' (s : List Int) (n i : Nat) (h : i < n) : (s.take n).getD i 0 = s.getD i 0 := by
  simp [List.getD, List.getElem?_take, h]
theorem getD_drop' (s : List Int) (n i : Nat) : (s.drop n).getD i 0 = s.getD (n + i) 0 := by
  simp [List.getD]
theorem torn_getD {a b : List Int} (ha : a.length = 64) (hb : b.length = 64) {k : Nat} (hk : k ≤ 64) (i : Nat) : (torn a b k).getD i 0 = if i < k then b.getD i 0 else a.getD i 0 := by
  unfold torn
  by_cases h : i < k
  · rw [if_pos h]
    simp only [List.getD]
    rw [List.getElem?_append_left (by rw [List.length_take]; omega), List.getElem?_take, if_pos h]
  · rw [if_neg h]
    simp only [List.getD]
    rw [List.getElem?_append_right (by rw [List.length_take]; omega), List.length_take, List.getElem?_drop]
    congr 2
    omega
theorem ext64 {a b : List Int} (ha : a.length = 64) (hb : b.length = 64) (h : ∀ i, i < 64 → a.getD i 0 = b.getD i 0) : a = b := by
  apply List.ext_getElem (by omega)
  intro i h1 h2
  have := h i (by omega)
  simpa [List.getD, h1, h2] using this
theorem bytes_small {n : Int} (h : 0 ≤ n ∧ n < 256) : byteAt n 3 = 0 ∧ byteAt n 2 = 0 ∧ byteAt n 1 = 0 ∧ byteAt n 0 = n := by
  unfold byteAt
  refine ⟨?_, ?_, ?_, ?_⟩ <;> simp <;> omega
/-- The bytes of a frame's sector that tell its epoch. -/
theorem sec_epoch {f : Fr} (hf : f.Good) (he : f.epoch < 256) : f.sec.getD 0 0 = 0 ∧ f.sec.getD 1 0 = 0 ∧ f.sec.getD 2 0 = 0 ∧ f.sec.getD 3 0 = f.epoch ∧ f.sec.getD 58 0 = 0 ∧ f.sec.getD 59 0 = 0 ∧ f.sec.getD 60 0 = 0 ∧ f.sec.getD 61 0 = f.epoch := by
  obtain ⟨b3, b2, b1, b0⟩ := bytes_small (n := f.epoch) (by have := hf.epoch; omega)
  have h1 := (sec_parts f).1
  rw [be4, b3, b2, b1, b0] at h1
  have h2 := sec_tail f hf.data
  unfold Fr.head at h2
  rw [be4, b3, b2, b1, b0] at h2
  have g : ∀ i, i < 4 → f.sec.getD i 0 = ([0, 0, 0, f.epoch] : List Int).getD i 0 := fun i hi => by rw [← h1, getD_take' _ _ _ hi]
  have t : ∀ i, f.sec.getD (58 + i) 0 = (([0, 0, 0, f.epoch] : List Int) ++ be 2 f.pos).getD i 0 := fun i => by rw [← h2, getD_drop']
  exact ⟨g 0 (by omega), g 1 (by omega), g 2 (by omega), g 3 (by omega), t 0, t 1, t 2, t 3⟩
/-- A sector at a position: whatever was written to it bore that position, and small epochs that grew. -/
structure Okay (p : Int) (s : List Int) : Prop where
  sec : IsSec s
  z0 : s.getD 0 0 = 0
  z1 : s.getD 1 0 = 0
  z2 : s.getD 2 0 = 0
  y0 : s.getD 58 0 = 0
  y1 : s.getD 59 0 = 0
  y2 : s.getD 60 0 = 0
  le : s.getD 61 0 ≤ s.getD 3 0
  pos : ∀ f, parseFr s = (f, true) → f.pos = p
theorem parse_ends {x : List Int} (h : (parseFr x).2 = true) : x.getD 3 0 = x.getD 61 0 := by
  have hs : (parseFr x).1.sec = x := parse_true (Prod.ext rfl h)
  have hd : (parseFr x).1.data.size ≤ 50 := by
    unfold parseFr at h ⊢
    split
    · rename_i hq; rw [if_pos hq] at h; simp at h
    · rename_i hq
      simp only
      rw [size_strOf, List.length_take]
      omega
  generalize (parseFr x).1 = f at *
  subst hs
  have h1 := (sec_parts f).1
  have h2 := sec_tail f hd
  unfold Fr.head at h2
  have g : f.sec.getD 3 0 = (be 4 f.epoch).getD 3 0 := by rw [← h1, getD_take' _ _ _ (by omega)]
  have t : f.sec.getD 61 0 = (be 4 f.epoch ++ be 2 f.pos).getD 3 0 := by rw [← h2, getD_drop']
  rw [g, t, be4]
  rfl
theorem parse_epoch3 {p : Int} {x : List Int} (h : Okay p x) {f : Fr} (hf : parseFr x = (f, true)) : f.epoch = x.getD 3 0 := by
  have hs := parse_true hf
  have he : f.epoch = num (x.take 4) := by
    unfold parseFr at hf
    split at hf
    · simp at hf
    · simp only [Prod.mk.injEq] at hf
      rw [← hf.1]
  have hl := h.sec.len
  have e : x.take 4 = [0, 0, 0, x.getD 3 0] := by
    have h0 := h.z0
    have h1 := h.z1
    have h2 := h.z2
    match x, hl with
    | a :: b :: c :: d :: l, _ =>
      simp [List.getD] at h0 h1 h2 ⊢
      exact ⟨h0, h1, h2⟩
  rw [he, e]
  simp [num]
theorem okay_zeros (p : Int) : Okay p zeros := by
  refine ⟨isSec_ok (by decide +kernel), by decide +kernel, by decide +kernel, by decide +kernel, by decide +kernel, by decide +kernel, by decide +kernel, by decide +kernel, fun f hf => ?_⟩
  have : (parseFr zeros).2 = false := by decide +kernel
  rw [hf] at this
  simp at this
theorem okay_frame {f : Fr} (hf : f.Good) (he : f.epoch < 256) : Okay f.pos f.sec := by
  obtain ⟨a0, a1, a2, a3, b0, b1, b2, b3⟩ := sec_epoch hf he
  refine ⟨hf.isSec, a0, a1, a2, b0, b1, b2, by rw [a3, b3]; exact Int.le_refl _, fun g hg => ?_⟩
  rw [parse_sec hf] at hg
  have e : f = g := congrArg Prod.fst hg
  rw [e]
theorem torn_isSec' {a b : List Int} (ha : IsSec a) (hb : IsSec b) {m : Nat} (hm : m ≤ 64) : IsSec (torn a b m) := by
  refine ⟨?_, fun c hc => ?_⟩
  · unfold torn
    have := ha.len
    have := hb.len
    simp
    omega
  · unfold torn at hc
    rcases List.mem_append.1 hc with h | h
    · exact hb.rng c (List.mem_of_mem_take h)
    · exact ha.rng c (List.mem_of_mem_drop h)
/-- A torn write. -/
theorem torn_okay {p : Int} {s : List Int} {f : Fr} {k : Nat} (h : Okay p s) (hf : f.Good) (he : f.epoch < 256) (hp : f.pos = p) (hlt : s.getD 3 0 < f.epoch) (hk : k ≤ 64) :
    Okay p (torn s f.sec k) ∧ (torn s f.sec k = s ∨ torn s f.sec k = f.sec ∨ (parseFr (torn s f.sec k)).2 = false) ∧ (torn s f.sec k).getD 3 0 ≤ f.epoch := by
  obtain ⟨a0, a1, a2, a3, b0, b1, b2, b3⟩ := sec_epoch hf he
  have hl := h.sec.len
  have hfl := hf.isSec.len
  have hg := fun i => torn_getD hl hfl hk i
  have h0 := h.z0
  have h1 := h.z1
  have h2 := h.z2
  have h58 := h.y0
  have h59 := h.y1
  have h60 := h.y2
  have hle := h.le
  have hsec := torn_isSec' h.sec hf.isSec hk
  have g0 : (torn s f.sec k).getD 0 0 = 0 := by rw [hg]; split <;> assumption
  have g1 : (torn s f.sec k).getD 1 0 = 0 := by rw [hg]; split <;> assumption
  have g2 : (torn s f.sec k).getD 2 0 = 0 := by rw [hg]; split <;> assumption
  have g58 : (torn s f.sec k).getD 58 0 = 0 := by rw [hg]; split <;> assumption
  have g59 : (torn s f.sec k).getD 59 0 = 0 := by rw [hg]; split <;> assumption
  have g60 : (torn s f.sec k).getD 60 0 = 0 := by rw [hg]; split <;> assumption
  have g3 := hg 3
  have g61 := hg 61
  by_cases k3 : k ≤ 3
  · have e : torn s f.sec k = s := by
      refine ext64 hsec.len hl (fun i hi => ?_)
      rw [hg]
      split
      · have : i = 0 ∨ i = 1 ∨ i = 2 := by omega
        rcases this with rfl | rfl | rfl
        · rw [a0, h0]
        · rw [a1, h1]
        · rw [a2, h2]
      · rfl
    rw [e]
    exact ⟨h, .inl rfl, by omega⟩
  · rw [if_pos (by omega), a3] at g3
    by_cases k61 : k ≤ 61
    · rw [if_neg (by omega)] at g61
      have hn : (parseFr (torn s f.sec k)).2 = false := by
        rw [Bool.eq_false_iff]
        intro hq
        have := parse_ends hq
        omega
      refine ⟨⟨hsec, g0, g1, g2, g58, g59, g60, by omega, fun g hg' => ?_⟩, .inr (.inr hn), by omega⟩
      rw [hg'] at hn
      simp at hn
    · rw [if_pos (by omega), b3] at g61
      have hx : (parseFr (torn s f.sec k)).2 = true → torn s f.sec k = f.sec := by
        intro hq
        have hs : (parseFr (torn s f.sec k)).1.sec = torn s f.sec k := parse_true (Prod.ext rfl hq)
        have hd : (parseFr (torn s f.sec k)).1.data.size ≤ 50 := by
          unfold parseFr at hq ⊢
          split
          · rename_i hq'; rw [if_pos hq'] at hq; simp at hq
          · simp only
            rw [size_strOf, List.length_take]
            omega
        generalize (parseFr (torn s f.sec k)).1 = y at *
        have t1 := sec_head y
        have t2 := sec_tail y hd
        rw [hs] at t1 t2
        have e58 : (torn s f.sec k).take 58 = f.sec.take 58 := by
          unfold torn
          rw [List.take_append_of_le_length (by rw [List.length_take]; omega), List.take_take, Nat.min_eq_left (by omega)]
        have e6 : (torn s f.sec k).take 6 = f.head := by
          have := congrArg (List.take 6) e58
          rw [List.take_take, List.take_take, Nat.min_eq_left (by omega), sec_head] at this
          exact this
        have e1 : (torn s f.sec k).take 58 ++ (torn s f.sec k).drop 58 = f.sec.take 58 ++ f.sec.drop 58 := by rw [e58, t2, ← t1, e6, sec_tail f hf.data]
        rw [List.take_append_drop, List.take_append_drop] at e1
        exact e1
      refine ⟨⟨hsec, g0, g1, g2, g58, g59, g60, by omega, fun g hg' => ?_⟩, ?_, by omega⟩
      · have := hx (by rw [hg'])
        rw [this, parse_sec hf] at hg'
        have e : f = g := congrArg Prod.fst hg'
        rw [← e]
        exact hp
      · cases hq : (parseFr (torn s f.sec k)).2
        · exact .inr (.inr rfl)
        · exact .inr (.inl (hx hq))
/-- What a crash leaves of one sector, where the pending writes are to different ones. -/
theorem crash_sector (sv : List Int) (n : Nat) : ∀ (l : List (Int × List Int)) (d : List (List Int)) (i : Nat), n < d.length → (∀ x ∈ l, 0 ≤ x.1) → l.Pairwise (fun x y => x.1 ≠ y.1) →
    (layCrash sv d i l).getD n [] = d.getD n [] ∨ ∃ x ∈ l, x.1 = n ∧ ∃ k, k ≤ 64 ∧ (layCrash sv d i l).getD n [] = torn (d.getD n []) x.2 k
  | [], d, i, _, _, _ => .inl rfl
  | x :: l, d, i, hn, h0, hp => by
    simp only [layCrash]
    rw [List.pairwise_cons] at hp
    have hlen : (if i < sv.length then lay d x (sv.getD i 0) else d).length = d.length := by split <;> simp [lay]
    by_cases hx : x.1 = n
    · have hoth : ∀ d' : List (List Int), ∀ j, (layCrash sv d' j l).getD n [] = d'.getD n [] := by
        intro d' j
        have hne : ∀ y ∈ l, 0 ≤ y.1 ∧ y.1 ≠ n := fun y hy => ⟨h0 y (by simp [hy]), fun e => hp.1 y hy (by rw [hx, e])⟩
        clear hp h0 hlen
        induction l generalizing d' j with
        | nil => rfl
        | cons y l ih =>
          simp only [layCrash]
          rw [ih _ _ (fun z hz => hne z (by simp [hz]))]
          split
          · exact lay_other d' y _ n (hne y (by simp)).1 (hne y (by simp)).2
          · rfl
      rw [hoth]
      split
      · right
        refine ⟨x, by simp, hx, few64 (sv.getD i 0), by unfold few64; omega, ?_⟩
        unfold lay
        rw [hx, Int.toNat_natCast, List.getD_eq_getElem?_getD, List.getElem?_set_self hn]
        rfl
      · exact .inl rfl
    · have ih := crash_sector sv n l (if i < sv.length then lay d x (sv.getD i 0) else d) (i + 1) (by rw [hlen]; exact hn) (fun y hy => h0 y (by simp [hy])) hp.2
      have hd : (if i < sv.length then lay d x (sv.getD i 0) else d).getD n [] = d.getD n [] := by
        split
        · exact lay_other d x _ n (h0 x (by simp)) hx
        · rfl
      rw [hd] at ih
      rcases ih with ih | ⟨y, hy, h1, h2⟩
      · exact .inl ih
      · exact .inr ⟨y, by simp [hy], h1, h2⟩
end Go.Proofs.Ytlhnhhjpjkgogaa.wl
namespace Go.Proofs.Ytlhnhhjpjkgogaa.wl
open Go.RowKit Go.Proofs.Ytlhnhhjpjkgogaa.agg Go.Proofs.Ytlhnhhjpjkgogaa.dk
set_option linter.unusedSimpArgs false
set_option linter.unusedVariables false

/-- The frame of a sector. -/
def frOf (s : List Int) : Option Fr := if (parseFr s).2 = true then some (parseFr s).1 else none
theorem frOf_some {s : List Int} {f : Fr} (h : frOf s = some f) : parseFr s = (f, true) := by
  unfold frOf at h
  split at h
  · rename_i hp
    exact Prod.ext (Option.some.inj h) hp
  · simp at h
theorem frOf_sec {f : Fr} (h : f.Good) : frOf f.sec = some f := by
  unfold frOf
  rw [parse_sec h]
  rfl
theorem getFr_snoc (m : List (Nat × Fr)) (k : Nat) (f : Fr) (j : Nat) (hk : ∀ x ∈ m, x.1 < k) : getFr (m ++ [(k, f)]) j = if j = k then some f else getFr m j := by
  unfold getFr
  rw [List.find?_append]
  by_cases h : j = k
  · subst h
    rw [if_pos rfl]
    have : m.find? (fun x => (x.1 : Int) == (j : Int)) = none := by
      rw [List.find?_eq_none]
      intro x hx
      have := hk x hx
      simp
      omega
    rw [this]
    simp
  · rw [if_neg h]
    have : ([(k, f)] : List (Nat × Fr)).find? (fun x => (x.1 : Int) == (j : Int)) = none := by
      rw [List.find?_eq_none]
      intro x hx
      rw [List.mem_singleton.1 hx]
      simp
      omega
    rw [this]
    simp
theorem scan_frs (vis : Int → List Int) : ∀ k j : Nat, getFr (scan vis k).m j = if j < k then frOf (vis j) else none
  | 0, j => by simp [scan, Sc.zero, getFr]
  | k + 1, j => by
    have ih := scan_frs vis k j
    have hkeys := scan_keys vis k
    simp only [scan, Sc.step]
    by_cases hp : (parseFr (vis k)).2 = true
    · rw [if_pos hp]
      have e : ∀ b : Bool, (if b = true then (⟨(scan vis k).m ++ [(k, (parseFr (vis k)).1)], max (scan vis k).greatest (parseFr (vis k)).1.epoch, k, (superFr (parseFr (vis k)).1).1⟩ : Sc) else ⟨(scan vis k).m ++ [(k, (parseFr (vis k)).1)], max (scan vis k).greatest (parseFr (vis k)).1.epoch, (scan vis k).block, (scan vis k).area⟩).m = (scan vis k).m ++ [(k, (parseFr (vis k)).1)] := by
        intro b
        cases b <;> rfl
      rw [e, getFr_snoc _ _ _ _ hkeys, ih]
      by_cases hj : j = k
      · subst hj
        rw [if_pos rfl, if_pos (by omega)]
        unfold frOf
        rw [if_pos hp]
      · rw [if_neg hj]
        by_cases hlt : j < k
        · rw [if_pos hlt, if_pos (by omega)]
        · rw [if_neg hlt, if_neg (by omega)]
    · rw [if_neg hp, ih]
      by_cases hj : j = k
      · subst hj
        rw [if_neg (by omega), if_pos (by omega)]
        unfold frOf
        rw [if_neg hp]
      · by_cases hlt : j < k
        · rw [if_pos hlt, if_pos (by omega)]
        · rw [if_neg hlt, if_neg (by omega)]
theorem scan_ge (vis : Int → List Int) : ∀ k j : Nat, j < k → ∀ f, frOf (vis j) = some f → f.epoch ≤ (scan vis k).greatest
  | 0, j, h, _, _ => by omega
  | k + 1, j, h, f, hf => by
    simp only [scan, Sc.step]
    by_cases hj : j = k
    · subst hj
      have hp := frOf_some hf
      rw [hp]
      simp only [if_true]
      split <;> simp only <;> omega
    · have ih := scan_ge vis k j (by omega) f hf
      split
      · split <;> simp only <;> omega
      · exact ih
theorem scan_le (vis : Int → List Int) (B : Int) (hB : 0 ≤ B) : ∀ k : Nat, (∀ j : Nat, j < k → ∀ f, frOf (vis j) = some f → f.epoch ≤ B) → 0 ≤ (scan vis k).greatest ∧ (scan vis k).greatest ≤ B
  | 0, _ => by simp [scan, Sc.zero]; exact hB
  | k + 1, h => by
    have ih := scan_le vis B hB k (fun j hj => h j (by omega))
    simp only [scan, Sc.step]
    by_cases hp : (parseFr (vis k)).2 = true
    · have := h k (by omega) (parseFr (vis k)).1 (by unfold frOf; rw [if_pos hp])
      rw [if_pos hp]
      split <;> simp only <;> omega
    · rw [if_neg hp]
      exact ih
theorem super_root (e : Int) (a : Nat) (ha : a = 0 ∨ a = 1) : superFr (rootFr e a) = ((a : Int), true) := by
  rcases ha with rfl | rfl
  · rfl
  · rfl
theorem step_none {x : Sc} {i : Nat} {s : List Int} (h : frOf s = none) : x.step i s = x := by
  unfold Sc.step
  rw [if_neg]
  intro hp
  unfold frOf at h
  rw [if_pos hp] at h
  simp at h
theorem step_some {x : Sc} {i : Nat} {s : List Int} {f : Fr} (h : frOf s = some f) : x.step i s = if x.takes i f = true then ⟨x.m ++ [(i, f)], max x.greatest f.epoch, i, (superFr f).1⟩ else ⟨x.m ++ [(i, f)], max x.greatest f.epoch, x.block, x.area⟩ := by
  have hp := frOf_some h
  unfold Sc.step
  rw [hp]
  rfl
/-- The superblock is found. -/
theorem scan_super (vis : Int → List Int) (b a : Nat) (eb : Int) (ha : a = 0 ∨ a = 1) (hb : b = 0 ∨ b = 1) (h : frOf (vis b) = some (rootFr eb a)) (ho : ∀ f, frOf (vis ((1 - b : Nat) : Int)) = some f → f.epoch < eb) :
    ∀ k : Nat, 2 ≤ k → (scan vis k).block = b ∧ (scan vis k).area = a
  | 0, h2 => by omega
  | 1, h2 => by omega
  | 2, _ => by
    have hsu := super_root eb a ha
    rcases hb with rfl | rfl
    · have h1 : scan vis 1 = ⟨[(0, rootFr eb a)], max 0 (rootFr eb a).epoch, 0, a⟩ := by
        show Sc.step Sc.zero 0 (vis 0) = _
        have h0 : frOf (vis 0) = some (rootFr eb a) := h
        rw [step_some h0, if_pos, hsu]
        · rfl
        · unfold Sc.takes; rw [hsu]; rfl
      show (Sc.step (scan vis 1) 1 (vis 1)).block = 0 ∧ (Sc.step (scan vis 1) 1 (vis 1)).area = a
      rw [h1]
      cases hv : frOf (vis 1) with
      | none => rw [step_none hv]; exact ⟨rfl, rfl⟩
      | some f =>
        have := ho f hv
        rw [step_some hv, if_neg]
        · exact ⟨rfl, rfl⟩
        · unfold Sc.takes
          have e1 : ((getFr ([(0, rootFr eb a)] ++ [(1, f)]) 0).getD Fr.none).epoch = eb := rfl
          simp only
          rw [e1]
          have : ¬ eb < f.epoch := by omega
          simp [this]
    · show (Sc.step (scan vis 1) 1 (vis 1)).block = 1 ∧ (Sc.step (scan vis 1) 1 (vis 1)).area = a
      have h1 : frOf (vis 1) = some (rootFr eb a) := h
      have h0 : (scan vis 1) = Sc.step Sc.zero 0 (vis 0) := rfl
      rw [step_some h1, if_pos]
      · rw [hsu]; exact ⟨rfl, rfl⟩
      · unfold Sc.takes
        rw [hsu, h0]
        cases hv : frOf (vis 0) with
        | none =>
          rw [step_none hv]
          rfl
        | some f =>
          have hlt := ho f hv
          rw [step_some hv]
          by_cases ht : Sc.zero.takes 0 f = true
          · rw [if_pos ht]
            have e1 : ((getFr (([] ++ [(0, f)]) ++ [(1, rootFr eb a)]) 0).getD Fr.none).epoch = f.epoch := rfl
            have e2 : (rootFr eb a).epoch = eb := rfl
            show (true && decide ((1 : Nat) < 2) && (decide ((0 : Int) < 0) || decide (((getFr (([] ++ [(0, f)]) ++ [(1, rootFr eb a)]) 0).getD Fr.none).epoch < (rootFr eb a).epoch))) = true
            rw [e1, e2]
            simp [hlt]
          · rw [if_neg ht]
            rfl
  | k + 3, _ => by
    have ih := scan_super vis b a eb ha hb h ho (k + 2) (by omega)
    show (Sc.step (scan vis (k + 2)) (k + 2) (vis ((k + 2 : Nat) : Int))).block = b ∧ (Sc.step (scan vis (k + 2)) (k + 2) (vis ((k + 2 : Nat) : Int))).area = a
    generalize scan vis (k + 2) = x at *
    cases hv : frOf (vis ((k + 2 : Nat) : Int)) with
    | none => rw [step_none hv]; exact ih
    | some f =>
      rw [step_some hv, if_neg]
      · exact ih
      · unfold Sc.takes
        simp
        intro _ h2
        omega
theorem runA_congr {A B : Nat → Option Fr} : ∀ t i o, (∀ k, i ≤ k → k < i + t → A k = B k) → runA A t i o = runA B t i o
  | 0, _, _, _ => rfl
  | t + 1, i, o, h => by
    rw [runA, runA, h i (Nat.le_refl _) (by omega), runA_congr t (i + 1) _ (fun k h1 h2 => h k (by omega) (by omega))]
/-- What lies in an area. -/
def areaOf (v : Nat → Option Fr) (S a : Nat) (i : Nat) : Option Fr := if i < S then v (2 + a * S + i) else none
end Go.Proofs.Ytlhnhhjpjkgogaa.wl
