/- What pk writes can be read back: pieces of bytes, pieces that were there. -/
import Derived.Test.YtglpdkcpnigniaaLzPack
namespace Go.Proofs.Ytglpdkcpnigniaa
set_option linter.unusedVariables false

inductive Dec (bs : List UInt8) : Nat → List UInt8 → Prop where
  | nil : Dec bs bs.length []
  | lit (t n : Nat) (R : List UInt8) (h1 : 1 ≤ n) (h2 : n ≤ 127) (h3 : t + n ≤ bs.length) (h : Dec bs (t + n) R) : Dec bs t (UInt8.ofNat n :: (sub bs t (t + n) ++ R))
  | rep (t r far : Nat) (R : List UInt8) (h1 : r ≤ 127) (h2 : 1 ≤ far) (h3 : far ≤ 65535) (h4 : far ≤ t) (h5 : t + (4 + r) ≤ bs.length) (h6 : ∀ i, i < 4 + r → bs[t - far + i]? = bs[t + i]?) (h : Dec bs (t + (4 + r)) R) : Dec bs t (piece r far ++ R)

theorem dec_flush {bs : List UInt8} (R : List UInt8) : ∀ (m t e : Nat), e - t = m → t ≤ e → e ≤ bs.length → Dec bs e R → Dec bs t (flush (sub bs t e) ++ R) := by
  intro m
  induction m using Nat.strongRecOn with
  | _ m ih =>
    intro t e hm h1 h2 hd
    by_cases h0 : t = e
    · subst h0
      rw [sub_self, flush_nil]
      exact hd
    · have hl := sub_len bs t e h2
      have hs := flush_step (sub bs t e) (min 127 (e - t)) (by rw [hl]) (by rw [hl]; omega)
      rw [hs, sub_take _ _ _ _ (by omega), sub_drop, List.cons_append, List.cons_append, List.append_assoc]
      exact Dec.lit t (min 127 (e - t)) _ (by omega) (by omega) (by omega) (ih (e - (t + min 127 (e - t))) (by omega) _ e rfl (by omega) h2 hd)

theorem ext_alike (bs : List UInt8) (p a : Nat) : ∀ (f m i : Nat), i < ext bs p a m f → bs[p + m + i]? = bs[a + m + i]?
  | 0, m, i, h => by simp [ext] at h
  | f + 1, m, i, h => by
    unfold ext at h
    split at h
    · rename_i hh
      cases i with
      | zero => exact hh.2
      | succ i =>
        have := ext_alike bs p a f (m + 1) i (by omega)
        rw [show p + m + (i + 1) = p + (m + 1) + i by omega, show a + m + (i + 1) = a + (m + 1) + i by omega]
        exact this
    · omega

theorem at4_alike {bs : List UInt8} {p a : Nat} (h : at4 bs p = at4 bs a) (i : Nat) (hi : i < 4) : bs[p + i]? = bs[a + i]? := by
  have := congrArg (fun l => l[i]?) h
  simp only [at4, List.getElem?_take, if_pos hi, List.getElem?_drop] at this
  exact this

theorem near_at4 {bs : List UInt8} {a p : Nat} (h : near bs a = some p) : at4 bs p = at4 bs a := by
  unfold near at h
  cases hl : lastB bs a a with
  | none => rw [hl] at h; simp at h
  | some q =>
    rw [hl] at h
    simp at h
    obtain ⟨_, rfl⟩ := h
    exact (lastB_lt bs a a q hl).2

theorem dec_pk (bs : List UInt8) : ∀ (m a beg : Nat), bs.length - a = m → beg ≤ a → a ≤ bs.length → Dec bs beg (pk bs a beg) := by
  intro m
  induction m using Nat.strongRecOn with
  | _ m ih =>
    intro a beg hm h1 h2
    by_cases h4 : a + 4 ≤ bs.length
    · cases hn : near bs a with
      | none =>
        rw [pk_skip h4 hn]
        exact ih (bs.length - (a + 1)) (by omega) (a + 1) beg rfl (by omega) (by omega)
      | some p =>
        rw [pk_take h4 hn]
        have hl := near_lt hn
        have he := ext_in bs p a 127 4 h4
        have hx := ext_le bs p a 127 4
        refine dec_flush _ _ beg a rfl h1 h2 (Dec.rep a (ext bs p a 4 127) (a - p) _ hx (by omega) hl.2 (by omega) (by omega) (fun i hi => ?_) (ih (bs.length - (a + (4 + ext bs p a 4 127))) (by omega) _ _ rfl (Nat.le_refl _) (by omega)))
        rw [show a - (a - p) = p by omega]
        by_cases hi4 : i < 4
        · exact at4_alike (near_at4 hn) i hi4
        · have := ext_alike bs p a 127 4 (i - 4) (by omega)
          rw [show p + 4 + (i - 4) = p + i by omega, show a + 4 + (i - 4) = a + i by omega] at this
          exact this
    · rw [pk_end h4]
      have hs : bs.drop beg = sub bs beg bs.length := by unfold sub; rw [List.take_of_length_le (by simp)]
      rw [hs]
      have := dec_flush (bs := bs) [] _ beg bs.length rfl (by omega) (Nat.le_refl _) Dec.nil
      rwa [List.append_nil] at this

end Go.Proofs.Ytglpdkcpnigniaa
