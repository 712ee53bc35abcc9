/- Contracts of (*pane.Panes).Keys and Add, as a whole. -/
import Derived.Test.YtlmonbclloamiaaPKeys2
import Derived.Test.YtlmonbclloamiaaStrs
import Derived.Test.YtlmonbclloamiaaTexts
import Derived.Test.YtlmonbclloamiaaRowAny
namespace Go.Proofs.Ytlmonbclloamiaa
open Go.RowKit Go.MapKept Go.Maps
set_option linter.unusedVariables false
theorem rowsum_pos {S : Int → Int} {lo hi : Int} : ∀ {l : List Int}, (∀ n ∈ l, 0 < S n) → (l.any (inR lo hi) = true ↔ rowsum S l lo hi ≠ 0)
  | [], _ => by simp [rowsum]
  | n :: l, h => by
    have ih := rowsum_pos (S := S) (lo := lo) (hi := hi) (l := l) (fun m hm => h m (by simp [hm]))
    have hb : 0 ≤ rowsum S l lo hi := by
      have : ∀ (l : List Int), (∀ n ∈ l, 0 < S n) → 0 ≤ rowsum S l lo hi := fun l => by
        induction l with
        | nil => intro _; simp [rowsum]
        | cons m l ih =>
          intro h
          have h1 := ih (fun n hn => h n (by simp [hn]))
          have h2 := h m (by simp)
          simp only [rowsum]; split <;> omega
      exact this l (fun m hm => h m (by simp [hm]))
    have hn := h n (by simp)
    simp only [List.any_cons, Bool.or_eq_true, rowsum]
    by_cases hr : inR lo hi n = true
    · rw [if_pos ((inR_iff lo hi n).1 hr)]
      constructor
      · intro _; omega
      · intro _; exact .inl hr
    · rw [if_neg (fun e => hr ((inR_iff lo hi n).2 e)), ih]
      constructor
      · rintro (h | h)
        · exact absurd h hr
        · omega
      · intro h; exact .inr (by omega)
theorem PInv.any {A : List Ad} {sm : List (CK × Int)} {rw : Rows} (h : PInv A sm rw) (ha : ∀ x ∈ A, AdOk x) (k : ByteArray) (lo hi : Int) : (rowL rw k).any (inR lo hi) = true ↔ Go.Proofs.Ytlmonbclloamiaa.psum A k lo hi ≠ 0 := by
  rw [h.psum ha, rowsum_pos]
  intro n hn
  have h1 := ((h.row k).2 n).1 hn
  have h2 := sget_nonneg ha k n
  omega
theorem PInv.rows {A : List Ad} {sm : List (CK × Int)} {rw : Rows} (h : PInv A sm rw) : rw.length ≤ A.length := by
  have h1 : ∀ k ∈ mkeys rw, k ∈ A.map (·.1) := fun k hk => by
    obtain ⟨x, hx, e⟩ := List.mem_map.1 hk
    subst e
    obtain ⟨k, v, l⟩ := x
    have hg := get_of_mem h.ndr hx
    obtain ⟨h1, h2, h3⟩ := h.present k v l hg
    obtain ⟨n, l', rfl⟩ := List.exists_cons_of_ne_nil h1
    obtain ⟨y, hy, e, _⟩ := mem_of_sget ((h3 n).1 (by simp))
    exact List.mem_map.2 ⟨y, hy, e⟩
  have := nodup_length h.ndr h1
  simpa [mkeys] using this
/-- the keys of which there is something in panes from lo on, below hi: which lists are they -/
def KeysOf (A : List Ad) (lo hi : Int) (ks : List ByteArray) : Prop := Rise ks ∧ ∀ k, k ∈ ks ↔ psum A k lo hi ≠ 0
theorem KeysOf.uniq {A B : List Ad} {lo hi lo' hi' : Int} {ks ks' : List ByteArray} (h : KeysOf A lo hi ks) (h' : KeysOf B lo' hi' ks') (e : ∀ k, psum A k lo hi = psum B k lo' hi') : ks = ks' :=
  h.1.ext h'.1 (fun k => by rw [h.2, h'.2, e])
theorem KeysOf.mem {A : List Ad} {lo hi : Int} {ks : List ByteArray} (h : KeysOf A lo hi ks) (ha : ∀ x ∈ A, AdOk x) : ks.length ≤ A.length ∧ ∀ k ∈ ks, k.size ≤ 24 := by
  have h1 : ∀ k ∈ ks, ∃ x ∈ A, x.1 = k := fun k hk => by
    have := (h.2 k).1 hk
    clear h hk
    induction A with
    | nil => exact absurd rfl this
    | cons x A ih =>
      by_cases e : x.1 = k
      · exact ⟨x, by simp, e⟩
      · rw [psum, if_neg (fun c => e c.1), Int.zero_add] at this
        obtain ⟨y, hy, e⟩ := ih (fun y hy => ha y (by simp [hy])) this
        exact ⟨y, by simp [hy], e⟩
  refine ⟨?_, fun k hk => ?_⟩
  · have := nodup_length h.1.nodup (m := A.map (·.1)) (fun k hk => by obtain ⟨x, hx, e⟩ := h1 k hk; exact List.mem_map.2 ⟨x, hx, e⟩)
    simpa using this
  · obtain ⟨x, hx, e⟩ := h1 k hk
    have := ha x hx
    unfold AdOk at this
    rw [← e]; omega
/-- a row of texts of the call's own -/
def TextsAt (w : World) (v : Value) (ks : List ByteArray) : Prop := w.ownsRow 0 9 1 v ks.length (ks.map Value.string)
/-- texts in a slice, wherever it lies -/
theorem TextsAt.strs {w : World} {v : Value} {ks : List ByteArray} (h : TextsAt w v ks) : ∃ b cap, v = .slice b ks.length cap ∧ ks.length ≤ cap ∧ cap ≤ maxLen ∧ Strs w b ks := by
  obtain ⟨b, cap, h1, h2, h3, h4, h5⟩ := inw_of_row Value.string h
  exact ⟨b, cap, h1, h2, h3, h4⟩
theorem keys_any (p : Nat) (B : List Nat) (wd ad : Int) (A : List Ad) (f t : Int) (w : World) (h : PaneAt w p B wd ad A) (hf : I64 f) (ht : I64 t) :
    Calls Try.prog 28 #[.pointer (some ⟨p, 0, none⟩), .int .i64 f, .int .i64 t] w fun e w' => ∃ v ks, e = .returned v ∧ KeysOf A (f / wd) (t / wd) ks ∧ TextsAt w' v ks ∧ (∀ b, v.ownBlock = some b → w.heap.size ≤ b) ∧ Below w.heap.size w w' := by
  obtain ⟨s, r, sm, rw, rfl, h1, h2⟩ := h.ex
  have a1 := h.a1
  have a2 := h.a2
  have hl := h2.rows
  refine (keys_walk p s r wd ad sm rw A f t w h1 h2 h.w1 (by omega) (by omega) hf ht).mono ?_
  rintro e w' ⟨v, done, rfl, hp, ho, hn, hb⟩
  have hnd : (picks rw (f / wd) (t / wd) done).Nodup := by
    unfold picks
    refine List.Nodup.sublist (List.Sublist.map _ List.filter_sublist) ?_
    rw [(hp.map Prod.fst).nodup_iff]
    have := h1.rows.nd
    exact this
  refine ⟨v, sortB (picks rw (f / wd) (t / wd) done), rfl, ⟨sortB_rise hnd, fun k => ?_⟩, ?_, hn, hb⟩
  · rw [(sortB_perm _).mem_iff, ← h2.any h.ok]
    unfold picks
    constructor
    · intro hk
      obtain ⟨x, hx, rfl⟩ := List.mem_map.1 hk
      exact (List.mem_filter.1 hx).2
    · intro hk
      have hg : mget rw k ≠ none := fun e => by
        unfold rowL at hk
        rw [e] at hk
        simp at hk
      obtain ⟨y, hy⟩ := Option.ne_none_iff_exists'.1 hg
      have hm : (k, y.1) ∈ done := hp.mem_iff.2 (List.mem_map.2 ⟨(k, y), mem_of_get hy, rfl⟩)
      exact List.mem_map.2 ⟨(k, y.1), List.mem_filter.2 ⟨hm, hk⟩, rfl⟩
  · unfold TextsAt
    rw [(sortB_perm _).length_eq]; exact ho
/-- what an Add leaves -/
def addTo (wd ad : Int) (A : List Ad) (k : ByteArray) (a n : Int) : Int × List Ad := if mayAdd k a n ad then (ad + 1, A ++ [(k, a / wd, n)]) else (ad, A)
theorem Spread.refl (w : World) (B : List Nat) : Spread w B B := fun _ h => .inl h
theorem add_any (p : Nat) (B : List Nat) (wd ad : Int) (A : List Ad) (k : ByteArray) (a n : Int) (w : World) (h : PaneAt w p B wd ad A) (hk : k.size ≤ 100) (ha : I64 a) (hn : I64 n) :
    Calls Try.prog 24 #[.pointer (some ⟨p, 0, none⟩), .string k, .int .i64 a, .int .i64 n] w fun e w' => e = .returned (.bool (mayAdd k a n ad)) ∧
      ∃ B', PaneAt w' p B' wd (addTo wd ad A k a n).1 (addTo wd ad A k a n).2 ∧ Fr (fun b => b ∈ B) w w' ∧ Spread w B B' := by
  cases hm : mayAdd k a n ad with
  | true =>
    have e : addTo wd ad A k a n = (ad + 1, A ++ [(k, a / wd, n)]) := by simp [addTo, hm]
    rw [e]
    exact add_yes p B wd ad A k a n w h hm
  | false =>
    have e : addTo wd ad A k a n = (ad, A) := by simp [addTo, hm]
    rw [e]
    refine (add_no p B wd ad A k a n w h hk ha hn hm).mono ?_
    rintro e w' ⟨rfl, rfl⟩
    exact ⟨rfl, B, h, Fr.refl _ _, Spread.refl _ _⟩
end Go.Proofs.Ytlmonbclloamiaa
