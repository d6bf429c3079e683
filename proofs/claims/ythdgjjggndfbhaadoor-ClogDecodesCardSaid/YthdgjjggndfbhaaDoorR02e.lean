/- The document's digest: its 64 and 8 constants (each root by the kernel). -/
import Derived.Test.YthdgjjggndfbhaaDoorR02c
namespace Go.Proofs.YthdgjjggndfbhaaDoor
namespace Abs
theorem pr_list : prF 310 = [2, 3, 5, 7, 11, 13, 17, 19, 23, 29, 31, 37, 41, 43, 47, 53, 59, 61, 67, 71, 73, 79, 83, 89, 97, 101, 103, 107, 109, 113, 127, 131, 137, 139, 149, 151, 157, 163, 167, 173, 179, 181, 191, 193, 197, 199, 211, 223, 227, 229, 233, 239, 241, 251, 257, 263, 269, 271, 277, 281, 283, 293, 307, 311] := by decide +kernel
theorem r3_0 : rootF 2 3 = 1116352408 := by decide +kernel
theorem r3_1 : rootF 3 3 = 1899447441 := by decide +kernel
theorem r3_2 : rootF 5 3 = 3049323471 := by decide +kernel
theorem r3_3 : rootF 7 3 = 3921009573 := by decide +kernel
theorem r3_4 : rootF 11 3 = 961987163 := by decide +kernel
theorem r3_5 : rootF 13 3 = 1508970993 := by decide +kernel
theorem r3_6 : rootF 17 3 = 2453635748 := by decide +kernel
theorem r3_7 : rootF 19 3 = 2870763221 := by decide +kernel
theorem r3_8 : rootF 23 3 = 3624381080 := by decide +kernel
theorem r3_9 : rootF 29 3 = 310598401 := by decide +kernel
theorem r3_10 : rootF 31 3 = 607225278 := by decide +kernel
theorem r3_11 : rootF 37 3 = 1426881987 := by decide +kernel
theorem r3_12 : rootF 41 3 = 1925078388 := by decide +kernel
theorem r3_13 : rootF 43 3 = 2162078206 := by decide +kernel
theorem r3_14 : rootF 47 3 = 2614888103 := by decide +kernel
theorem r3_15 : rootF 53 3 = 3248222580 := by decide +kernel
theorem r3_16 : rootF 59 3 = 3835390401 := by decide +kernel
theorem r3_17 : rootF 61 3 = 4022224774 := by decide +kernel
theorem r3_18 : rootF 67 3 = 264347078 := by decide +kernel
theorem r3_19 : rootF 71 3 = 604807628 := by decide +kernel
theorem r3_20 : rootF 73 3 = 770255983 := by decide +kernel
theorem r3_21 : rootF 79 3 = 1249150122 := by decide +kernel
theorem r3_22 : rootF 83 3 = 1555081692 := by decide +kernel
theorem r3_23 : rootF 89 3 = 1996064986 := by decide +kernel
theorem r3_24 : rootF 97 3 = 2554220882 := by decide +kernel
theorem r3_25 : rootF 101 3 = 2821834349 := by decide +kernel
theorem r3_26 : rootF 103 3 = 2952996808 := by decide +kernel
theorem r3_27 : rootF 107 3 = 3210313671 := by decide +kernel
theorem r3_28 : rootF 109 3 = 3336571891 := by decide +kernel
theorem r3_29 : rootF 113 3 = 3584528711 := by decide +kernel
theorem r3_30 : rootF 127 3 = 113926993 := by decide +kernel
theorem r3_31 : rootF 131 3 = 338241895 := by decide +kernel
theorem r3_32 : rootF 137 3 = 666307205 := by decide +kernel
theorem r3_33 : rootF 139 3 = 773529912 := by decide +kernel
theorem r3_34 : rootF 149 3 = 1294757372 := by decide +kernel
theorem r3_35 : rootF 151 3 = 1396182291 := by decide +kernel
theorem r3_36 : rootF 157 3 = 1695183700 := by decide +kernel
theorem r3_37 : rootF 163 3 = 1986661051 := by decide +kernel
theorem r3_38 : rootF 167 3 = 2177026350 := by decide +kernel
theorem r3_39 : rootF 173 3 = 2456956037 := by decide +kernel
theorem r3_40 : rootF 179 3 = 2730485921 := by decide +kernel
theorem r3_41 : rootF 181 3 = 2820302411 := by decide +kernel
theorem r3_42 : rootF 191 3 = 3259730800 := by decide +kernel
theorem r3_43 : rootF 193 3 = 3345764771 := by decide +kernel
theorem r3_44 : rootF 197 3 = 3516065817 := by decide +kernel
theorem r3_45 : rootF 199 3 = 3600352804 := by decide +kernel
theorem r3_46 : rootF 211 3 = 4094571909 := by decide +kernel
theorem r3_47 : rootF 223 3 = 275423344 := by decide +kernel
theorem r3_48 : rootF 227 3 = 430227734 := by decide +kernel
theorem r3_49 : rootF 229 3 = 506948616 := by decide +kernel
theorem r3_50 : rootF 233 3 = 659060556 := by decide +kernel
theorem r3_51 : rootF 239 3 = 883997877 := by decide +kernel
theorem r3_52 : rootF 241 3 = 958139571 := by decide +kernel
theorem r3_53 : rootF 251 3 = 1322822218 := by decide +kernel
theorem r3_54 : rootF 257 3 = 1537002063 := by decide +kernel
theorem r3_55 : rootF 263 3 = 1747873779 := by decide +kernel
theorem r3_56 : rootF 269 3 = 1955562222 := by decide +kernel
theorem r3_57 : rootF 271 3 = 2024104815 := by decide +kernel
theorem r3_58 : rootF 277 3 = 2227730452 := by decide +kernel
theorem r3_59 : rootF 281 3 = 2361852424 := by decide +kernel
theorem r3_60 : rootF 283 3 = 2428436474 := by decide +kernel
theorem r3_61 : rootF 293 3 = 2756734187 := by decide +kernel
theorem r3_62 : rootF 307 3 = 3204031479 := by decide +kernel
theorem r3_63 : rootF 311 3 = 3329325298 := by decide +kernel
theorem r2_0 : rootF 2 2 = 1779033703 := by decide +kernel
theorem r2_1 : rootF 3 2 = 3144134277 := by decide +kernel
theorem r2_2 : rootF 5 2 = 1013904242 := by decide +kernel
theorem r2_3 : rootF 7 2 = 2773480762 := by decide +kernel
theorem r2_4 : rootF 11 2 = 1359893119 := by decide +kernel
theorem r2_5 : rootF 13 2 = 2600822924 := by decide +kernel
theorem r2_6 : rootF 17 2 = 528734635 := by decide +kernel
theorem r2_7 : rootF 19 2 = 1541459225 := by decide +kernel
theorem roots3 : (prF 310).map (fun p => rootF p 3) = rootsN := by
  rw [pr_list]
  simp only [List.map_cons, List.map_nil, r3_0, r3_1, r3_2, r3_3, r3_4, r3_5, r3_6, r3_7, r3_8, r3_9, r3_10, r3_11, r3_12, r3_13, r3_14, r3_15, r3_16, r3_17, r3_18, r3_19, r3_20, r3_21, r3_22, r3_23, r3_24, r3_25, r3_26, r3_27, r3_28, r3_29, r3_30, r3_31, r3_32, r3_33, r3_34, r3_35, r3_36, r3_37, r3_38, r3_39, r3_40, r3_41, r3_42, r3_43, r3_44, r3_45, r3_46, r3_47, r3_48, r3_49, r3_50, r3_51, r3_52, r3_53, r3_54, r3_55, r3_56, r3_57, r3_58, r3_59, r3_60, r3_61, r3_62, r3_63]
  rfl
theorem roots2 : ((prF 310).take 8).map (fun p => rootF p 2) = begN := by
  rw [pr_list]
  simp only [List.take, List.map_cons, List.map_nil, r2_0, r2_1, r2_2, r2_3, r2_4, r2_5, r2_6, r2_7]
  rfl
theorem pr_lt : ∀ p ∈ prF 310, p < 4294967296 := by
  rw [pr_list]; decide
end Abs
end Go.Proofs.YthdgjjggndfbhaaDoor
