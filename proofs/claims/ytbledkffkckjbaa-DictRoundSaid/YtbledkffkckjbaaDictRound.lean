/- The walk of DictRound. -/
import Derived.Test.YtbledkffkckjbaaDictReads
import Derived.Test.YtbledkffkckjbaaDictWalks
namespace Go.Proofs.Ytbledkffkckjbaa
open Go.ChangeShapes Go.WideShapes Go.ChangeAt Go.RowKit Go.Maps
set_option linter.unusedVariables false

theorem readD_whole {L : Int} {ns : List DNode} (h1 : 1 ≤ L) (h3 : L ≤ 3) (hok : DOk ns) (hc : Chain L ns) (hf : Full L ns) : readD L (putDR ns) 0 0 = (some ns, (putDR ns).length, 0) := by
  have := readD_put h1 h3 hok hc hf [] []
  simpa using this
set_option maxRecDepth 100000 in
set_option maxHeartbeats 3200000 in
theorem walk_DictRound (w : World) (levels : Int) (hlv : InI64 levels) (v : Value) (ll : List (List ByteArray)) (hv : PathsW w w.heap.size v ll) (v2 : Value) (l : List UInt8) (hv2 : Sl w w.heap.size v2 (bvals l)) (hz : l.length ≤ maxLen) :
    Calls Try.prog 6 #[.int .i64 levels, v, v2] w (Gives (.bool true) w) := by
  have HBT := hid (both_any levels v ll w hlv hv)
  have hL := pickN_in levels 3 (by omega)
  have hLL : 1 ≤ bothN levels ∧ bothN levels ≤ 3 := by unfold bothN; omega
  have hok : DOk (addMany (bothN levels) [] (ll.take 60)) := addMany_ok dok_nil _
  have hch := addMany_chain (L := bothN levels) dok_nil (chain_nil _) (fun h => by simp at h) (ll.take 60)
  clear hL
  generalize bothN levels = L at *
  generalize addMany L [] (ll.take 60) = ns at *
  have hrd := readD_whole hLL.1 hLL.2 hok hch.1 hch.2
  have hql := putDR_len hok
  have hsm := hok.small
  have hnl := hok.len
  have HPUT := hid (fun D d W v l h hv hl => putDict_any D d L ns v l W h (by omega) hsm hv hl)
  have hend : rEnd (putDR ns) (putDR ns).length 0 = 0 := by unfold rEnd; simp
  generalize hq : putDR ns = q at *
  obtain ⟨A, c, rfl, hc1, hc2⟩ := hv2.form
  obtain ⟨s, hs, hsl, hcase⟩ : ∃ s : List UInt8, s.length ≤ 20 ∧ Sl w w.heap.size (.slice A s.length c) (bvals s) ∧ ((20 < l.length ∧ s.length = 20) ∨ (l.length ≤ 20 ∧ s.length = l.length)) := by
    by_cases h : 20 < l.length
    · have e : (l.take 20).length = 20 := by rw [List.length_take]; omega
      refine ⟨l.take 20, by omega, ?_, .inl ⟨h, e⟩⟩
      rw [e, bvals_take']
      exact Sl.head 20 hv2 (by omega)
    · exact ⟨l, by omega, hv2, .inr ⟨by omega, rfl⟩⟩
  obtain ⟨bl, hbl⟩ : ∃ bl, bl = s ++ q := ⟨_, rfl⟩
  have hbl1 : bl.length = s.length + q.length := by rw [hbl, List.length_append]
  have hbl2 : bl.drop s.length = q := by rw [hbl, List.drop_left]
  have HP : Hid (∀ a, a = s.length → ∀ D d W, DictW W D d L ns → Sl W W.heap.size (.slice A s.length c) (bvals s) → Calls Try.prog 20 #[.pointer (some ⟨d, 0, none⟩), .slice A a c] W (PutSl bl W)) := hid (by
    rintro a rfl D d W h hv
    rw [hbl]
    exact HPUT.out D d W _ s h hv (by omega))
  have hq0 : 0 < q.length := by rw [← hq]; unfold putDR; have := putInt_pos ((ns.length : Nat) : Int); rw [List.length_append]; omega
  have HNEW : Hid (∀ a, a = s.length → ∀ A c W, Sl W W.heap.size (.slice A bl.length c) (bvals bl) → Calls Try.prog 21 #[.slice (Option.map (fun x => x.add a) A) q.length (c - a)] W (NewPost2 q W)) := hid (by
    rintro a rfl A c W h
    have := h.from_ (a := s.length) (by omega)
    obtain ⟨A', c', e, h1, h2, -⟩ := id h
    injection e with _ _ e3
    subst e3
    rw [bvals_len] at h1
    rw [hbl2, if_neg (by omega), hbl1, Nat.add_sub_cancel_left] at this
    exact new2_any _ q W this (by omega))
  have HDOK := hid hok; have HSL := hid hsl; have HRD := hid hrd; have HEND := hid hend
  unfold maxLen at hc2
  clear hbl hbl2 hsl hv2 hv hlv hz hq hrd hend hok hch hsm HPUT
  go_enter Try.func6, Try.ntmps6
  go_wp2_with fail
  refine HBT.out.mono ?_
  rintro e w1 ⟨d, r, D, R, rfl, hbo, hb⟩
  have HBO := hid hbo; have HB := hid hb; clear hbo hb HBT
  have hs1 := HB.out.size
  rcases hcase with ⟨hgt, hlen⟩ | ⟨hle, hlen⟩
  all_goals
    go_wp2_with fail
    refine (HP.out _ hlen.symm D d w1 HBO.out.1 ((HSL.out.below HB.out).more hs1)).mono ?_
    rintro e w2 ⟨v2, rfl, hsl2, hb2⟩
    obtain ⟨A2, c2, rfl, hc21, hc22⟩ := hsl2.form
    have HSL2 := hid hsl2; have HB2 := hid hb2; clear hsl2 hb2 HP
    unfold maxLen at hc22
    have hne : ¬ c2 = s.length := by omega
    rw [hlen] at hne
    go_wp2_with fail
    refine (HNEW.out _ hlen.symm A2 c2 w2 HSL2.out).mono ?_
    rintro en w3 ⟨p, rfl, hr3, hp3, -, hb3⟩
    have HR3 := hid hr3; have HB3 := hid hb3; clear hr3 hb3 HNEW
    have hcL := (HBO.out.2.1.below HB2.out).below HB3.out
    have hcL3 := hcL.2.2.2.1
    have HRW3 := hid hcL; clear hcL
    have HRE := hid (readD_any p p q 0 0 L w3 HR3.out (by omega))
    rw [HRD.out] at HRE
    go_wp2_with fail
    refine HRE.out.mono ?_
    rintro en w4 ⟨hr4, hu4, hres⟩
    simp only at hr4 hres
    rcases hres with ⟨h, _⟩ | ⟨ns', d2, D2, h, -, rfl, hdw, hg⟩
    · cases h
    · injection h with h
      subst h
      have hs2 := HB2.out.size
      have hs3 := HB3.out.size
      have hpp := HR3.out.lt
      have HBO4 := hid (show BothW w4 w.heap.size D2 R d2 r L ns from ⟨hdw, HRW3.out.upd hu4 (fun hx => by have := HBO.out.2.1.2.1 _ hx; omega), HDOK.out, fun k hk hr => by have := hg k hk; have := HBO.out.2.1.2.1 k hr; omega, fun k hk => by have := hg k hk; omega, fun k hk => HBO.out.2.2.2.2.2 k hk⟩)
      have HB4 := hid ((HB.out.trans ((HB2.out.mono hs1).trans (HB3.out.mono (by omega)))).trans (hu4.below (B := w.heap.size) (by omega) hpp))
      have HEN := hid (readEnd_any p p q q.length 0 w4 hr4)
      rw [HEND.out] at HEN
      clear hr4 hu4 hdw hg HRW3 HRE
      go_wp2_with fail
      refine HEN.out.mono ?_
      rintro en w5 ⟨rfl, hq5⟩
      have HB5 := hid (HB4.out.trans (hq5.below _))
      have HLK := hid (like_any w.heap.size D2 R d2 r L ns w5 (HBO4.out.below (hq5.below _)))
      clear hq5
      go_wp2_with fail
      refine HLK.out.mono ?_
      rintro e w8 ⟨rfl, hb8⟩
      have HB8 := hid (HB5.out.trans (hb8.mono HB5.out.size)); clear hb8
      go_wp2_with fail
      refine (livesD_any _).mono ?_
      rintro e w9 ⟨rfl, hb9⟩
      have HB9 := hid (HB8.out.trans (hb9.mono HB8.out.size)); clear hb9
      go_wp2
      go_ret
      exact ⟨rfl, HB9.out⟩
end Go.Proofs.Ytbledkffkckjbaa
