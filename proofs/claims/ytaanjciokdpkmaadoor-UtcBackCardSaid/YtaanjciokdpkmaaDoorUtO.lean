/- Utc, the plain law: the order of texts. -/
import Derived.Test.YtaanjciokdpkmaaDoorUtN
import Derived.Laws.Strings
namespace Go.Proofs.YtaanjciokdpkmaaDoor
set_option linter.unusedVariables false
set_option linter.unusedSimpArgs false
set_option linter.unnecessarySimpa false
theorem fmt_list (y m d hh mm ss us : Nat) : (fmtB y m d hh mm ss us).data.toList = pad 4 y ++ (45 :: (pad 2 m ++ (45 :: (pad 2 d ++ (84 :: (pad 2 hh ++ (58 :: (pad 2 mm ++ (58 :: (pad 2 ss ++ (46 :: (pad 6 us ++ [90])))))))))))) := by
  simp [fmtB, padB, ByteArray.data_append]
open Go.Op (bytesLess)
theorem bl_cons (c : UInt8) {x y : List UInt8} (h : bytesLess x y = true) : bytesLess (c :: x) (c :: y) = true := bl_same [c] h
theorem bl_fld {w n n' : Nat} (x y : List UInt8) (h : n < n') (h' : n' < 10 ^ w) : bytesLess (pad w n ++ x) (pad w n' ++ y) = true := bl_app x y (by rw [pad_len, pad_len]) (pad_less w h h')
theorem fmt_less {y m d hh mm ss us y' m' d' hh' mm' ss' us' : Nat} (b : y' < 10000 ∧ m' < 100 ∧ d' < 100 ∧ hh' < 100 ∧ mm' < 100 ∧ ss' < 100 ∧ us' < 1000000)
    (h : y < y' ∨ y = y' ∧ (m < m' ∨ m = m' ∧ (d < d' ∨ d = d' ∧ (hh < hh' ∨ hh = hh' ∧ (mm < mm' ∨ mm = mm' ∧ (ss < ss' ∨ ss = ss' ∧ us < us')))))) : bytesLess (fmtB y m d hh mm ss us).toList (fmtB y' m' d' hh' mm' ss' us').toList = true := by
  rw [ByteArray.toList_eq, ByteArray.toList_eq, fmt_list, fmt_list]
  obtain ⟨b1, b2, b3, b4, b5, b6, b7⟩ := b
  rcases h with h | ⟨rfl, h | ⟨rfl, h | ⟨rfl, h | ⟨rfl, h | ⟨rfl, h | ⟨rfl, h⟩⟩⟩⟩⟩⟩
  · exact bl_fld _ _ h b1
  · exact bl_same _ (bl_cons _ (bl_fld _ _ h b2))
  · exact bl_same _ (bl_cons _ (bl_same _ (bl_cons _ (bl_fld _ _ h b3))))
  · exact bl_same _ (bl_cons _ (bl_same _ (bl_cons _ (bl_same _ (bl_cons _ (bl_fld _ _ h b4))))))
  · exact bl_same _ (bl_cons _ (bl_same _ (bl_cons _ (bl_same _ (bl_cons _ (bl_same _ (bl_cons _ (bl_fld _ _ h b5))))))))
  · exact bl_same _ (bl_cons _ (bl_same _ (bl_cons _ (bl_same _ (bl_cons _ (bl_same _ (bl_cons _ (bl_same _ (bl_cons _ (bl_fld _ _ h b6))))))))))
  · exact bl_same _ (bl_cons _ (bl_same _ (bl_cons _ (bl_same _ (bl_cons _ (bl_same _ (bl_cons _ (bl_same _ (bl_cons _ (bl_same _ (bl_cons _ (bl_fld _ _ h b7))))))))))))
end Go.Proofs.YtaanjciokdpkmaaDoor
