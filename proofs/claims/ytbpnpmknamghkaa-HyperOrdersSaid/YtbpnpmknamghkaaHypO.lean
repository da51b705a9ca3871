/- What the functions of this layer come to, as forms of the small logic; written by program. Conditions: none. -/
import Derived.Test.YtbpnpmknamghkaaSbU
import Derived.Test.YtbpnpmknamghkaaHypM
import Derived.Test.YtbpnpmknamghkaaChecked
import Derived.KernelRfl
set_option maxRecDepth 100000
namespace Go.Proofs.Ytbpnpmknamghkaa
open Go Go.Sb
def N_signalboxlaw32_HyperOrders (a0_0 : Int) (a0_1 : Int) (b1_0 : Int) (b1_1 : Int) (c2_0 : Int) (c2_1 : Int) : M Value := Nf Try.prog 6 #[.agg #[.int .u64 a0_0, .int .u64 a0_1], .agg #[.int .u64 b1_0, .int .u64 b1_1], .agg #[.int .u64 c2_0, .int .u64 c2_1]]
def C_signalboxlaw32_HyperOrders : List (Nat × List Nat) := [(4, [3, 4, 5, 7, 8])]
def D_signalboxlaw32_HyperOrders : List (Nat × List Nat) := [(3, []), (4, [])]
def T_signalboxlaw32_HyperOrders_4 (a3 : Addr) (b4 : Addr) (c5 : Addr) (ab7 : Bool) (ba8 : Bool) : Env := mkEnv [(3, .pointer (some a3)), (4, .pointer (some b4)), (5, .pointer (some c5)), (7, .bool ab7), (8, .bool ba8)] 56 0
def K_signalboxlaw32_HyperOrders_4 (a3 : Addr) (b4 : Addr) (c5 : Addr) (ab7 : Bool) (ba8 : Bool) : M Value := Cut Try.prog 6 (todoOf Try.f6 4) (T_signalboxlaw32_HyperOrders_4 a3 b4 c5 ab7 ba8)
def B_signalboxlaw32_HyperOrders (a0_0 : Int) (a0_1 : Int) (b1_0 : Int) (b1_1 : Int) (c2_0 : Int) (c2_1 : Int) : M Value :=
  mNew #[.int .u64 a0_0, .int .u64 a0_1] 29 fun (x3 : Addr) =>
  mNew #[.int .u64 b1_0, .int .u64 b1_1] 29 fun (x4 : Addr) =>
  mNew #[.int .u64 c2_0, .int .u64 c2_1] 29 fun (x5 : Addr) =>
  mBind (N_signalboxlaw32_fixed) fun r9 =>
  unB r9 fun (x9 : Bool) =>
  mIf (!x9) (
    mRet (.bool false)) (
    mAnd (
      mLdI .u64 x3 fun (x11_120_0 : Int) =>
      mLdI .u64 (x3.add 1) fun (x11_120_1 : Int) =>
      mAnd (
        mLdI .u64 x4 fun (x12_145_0 : Int) =>
        mLdI .u64 (x4.add 1) fun (x12_145_1 : Int) =>
        mAnd (
          mBind (N_hyper_Less x11_120_0 x11_120_1 x12_145_0 x12_145_1) fun r13_160 =>
          unB r13_160 fun (x13_160 : Bool) =>
          mAnd (
            mLdI .u64 x4 fun (x14_164_0 : Int) =>
            mLdI .u64 (x4.add 1) fun (x14_164_1 : Int) =>
            mLdI .u64 x3 fun (x15_165_0 : Int) =>
            mLdI .u64 (x3.add 1) fun (x15_165_1 : Int) =>
            mBind (N_hyper_Less x14_164_0 x14_164_1 x15_165_0 x15_165_1) fun r16_166 =>
            unB r16_166 fun (x16_166 : Bool) =>
            K_signalboxlaw32_HyperOrders_4 x3 x4 x5 x13_160 x16_166) (
            mLdI .u64 x3 fun (x15_161_0 : Int) =>
            mLdI .u64 (x3.add 1) fun (x15_161_1 : Int) =>
            mLdI .u64 x4 fun (x14_162_0 : Int) =>
            mLdI .u64 (x4.add 1) fun (x14_162_1 : Int) =>
            mBind (N_hyper_Less x14_162_0 x14_162_1 x15_161_0 x15_161_1) fun r16_163 =>
            unB r16_163 fun (x16_163 : Bool) =>
            K_signalboxlaw32_HyperOrders_4 x3 x4 x5 x13_160 x16_163)) (
          mAnd (
            mLdI .u64 x4 fun (x14_153_0 : Int) =>
            mLdI .u64 (x4.add 1) fun (x14_153_1 : Int) =>
            mAnd (
              mBind (N_hyper_Less x11_120_0 x11_120_1 x12_145_0 x12_145_1) fun r13_157 =>
              unB r13_157 fun (x13_157 : Bool) =>
              mLdI .u64 x3 fun (x15_158_0 : Int) =>
              mLdI .u64 (x3.add 1) fun (x15_158_1 : Int) =>
              mBind (N_hyper_Less x14_153_0 x14_153_1 x15_158_0 x15_158_1) fun r16_159 =>
              unB r16_159 fun (x16_159 : Bool) =>
              K_signalboxlaw32_HyperOrders_4 x3 x4 x5 x13_157 x16_159) (
              mLdI .u64 x3 fun (x15_154_0 : Int) =>
              mLdI .u64 (x3.add 1) fun (x15_154_1 : Int) =>
              mBind (N_hyper_Less x11_120_0 x11_120_1 x12_145_0 x12_145_1) fun r13_155 =>
              unB r13_155 fun (x13_155 : Bool) =>
              mBind (N_hyper_Less x14_153_0 x14_153_1 x15_154_0 x15_154_1) fun r16_156 =>
              unB r16_156 fun (x16_156 : Bool) =>
              K_signalboxlaw32_HyperOrders_4 x3 x4 x5 x13_155 x16_156)) (
            mLdI .u64 x3 fun (x15_146_0 : Int) =>
            mLdI .u64 (x3.add 1) fun (x15_146_1 : Int) =>
            mAnd (
              mBind (N_hyper_Less x11_120_0 x11_120_1 x12_145_0 x12_145_1) fun r13_150 =>
              unB r13_150 fun (x13_150 : Bool) =>
              mLdI .u64 x4 fun (x14_151_0 : Int) =>
              mLdI .u64 (x4.add 1) fun (x14_151_1 : Int) =>
              mBind (N_hyper_Less x14_151_0 x14_151_1 x15_146_0 x15_146_1) fun r16_152 =>
              unB r16_152 fun (x16_152 : Bool) =>
              K_signalboxlaw32_HyperOrders_4 x3 x4 x5 x13_150 x16_152) (
              mLdI .u64 x4 fun (x14_147_0 : Int) =>
              mLdI .u64 (x4.add 1) fun (x14_147_1 : Int) =>
              mBind (N_hyper_Less x11_120_0 x11_120_1 x12_145_0 x12_145_1) fun r13_148 =>
              unB r13_148 fun (x13_148 : Bool) =>
              mBind (N_hyper_Less x14_147_0 x14_147_1 x15_146_0 x15_146_1) fun r16_149 =>
              unB r16_149 fun (x16_149 : Bool) =>
              K_signalboxlaw32_HyperOrders_4 x3 x4 x5 x13_148 x16_149)))) (
        mAnd (
          mLdI .u64 x4 fun (x14_133_0 : Int) =>
          mLdI .u64 (x4.add 1) fun (x14_133_1 : Int) =>
          mAnd (
            mLdI .u64 x4 fun (x12_138_0 : Int) =>
            mLdI .u64 (x4.add 1) fun (x12_138_1 : Int) =>
            mAnd (
              mBind (N_hyper_Less x11_120_0 x11_120_1 x12_138_0 x12_138_1) fun r13_142 =>
              unB r13_142 fun (x13_142 : Bool) =>
              mLdI .u64 x3 fun (x15_143_0 : Int) =>
              mLdI .u64 (x3.add 1) fun (x15_143_1 : Int) =>
              mBind (N_hyper_Less x14_133_0 x14_133_1 x15_143_0 x15_143_1) fun r16_144 =>
              unB r16_144 fun (x16_144 : Bool) =>
              K_signalboxlaw32_HyperOrders_4 x3 x4 x5 x13_142 x16_144) (
              mLdI .u64 x3 fun (x15_139_0 : Int) =>
              mLdI .u64 (x3.add 1) fun (x15_139_1 : Int) =>
              mBind (N_hyper_Less x11_120_0 x11_120_1 x12_138_0 x12_138_1) fun r13_140 =>
              unB r13_140 fun (x13_140 : Bool) =>
              mBind (N_hyper_Less x14_133_0 x14_133_1 x15_139_0 x15_139_1) fun r16_141 =>
              unB r16_141 fun (x16_141 : Bool) =>
              K_signalboxlaw32_HyperOrders_4 x3 x4 x5 x13_140 x16_141)) (
            mLdI .u64 x3 fun (x15_134_0 : Int) =>
            mLdI .u64 (x3.add 1) fun (x15_134_1 : Int) =>
            mLdI .u64 x4 fun (x12_135_0 : Int) =>
            mLdI .u64 (x4.add 1) fun (x12_135_1 : Int) =>
            mBind (N_hyper_Less x11_120_0 x11_120_1 x12_135_0 x12_135_1) fun r13_136 =>
            unB r13_136 fun (x13_136 : Bool) =>
            mBind (N_hyper_Less x14_133_0 x14_133_1 x15_134_0 x15_134_1) fun r16_137 =>
            unB r16_137 fun (x16_137 : Bool) =>
            K_signalboxlaw32_HyperOrders_4 x3 x4 x5 x13_136 x16_137)) (
          mLdI .u64 x3 fun (x15_121_0 : Int) =>
          mLdI .u64 (x3.add 1) fun (x15_121_1 : Int) =>
          mAnd (
            mLdI .u64 x4 fun (x12_126_0 : Int) =>
            mLdI .u64 (x4.add 1) fun (x12_126_1 : Int) =>
            mAnd (
              mBind (N_hyper_Less x11_120_0 x11_120_1 x12_126_0 x12_126_1) fun r13_130 =>
              unB r13_130 fun (x13_130 : Bool) =>
              mLdI .u64 x4 fun (x14_131_0 : Int) =>
              mLdI .u64 (x4.add 1) fun (x14_131_1 : Int) =>
              mBind (N_hyper_Less x14_131_0 x14_131_1 x15_121_0 x15_121_1) fun r16_132 =>
              unB r16_132 fun (x16_132 : Bool) =>
              K_signalboxlaw32_HyperOrders_4 x3 x4 x5 x13_130 x16_132) (
              mLdI .u64 x4 fun (x14_127_0 : Int) =>
              mLdI .u64 (x4.add 1) fun (x14_127_1 : Int) =>
              mBind (N_hyper_Less x11_120_0 x11_120_1 x12_126_0 x12_126_1) fun r13_128 =>
              unB r13_128 fun (x13_128 : Bool) =>
              mBind (N_hyper_Less x14_127_0 x14_127_1 x15_121_0 x15_121_1) fun r16_129 =>
              unB r16_129 fun (x16_129 : Bool) =>
              K_signalboxlaw32_HyperOrders_4 x3 x4 x5 x13_128 x16_129)) (
            mLdI .u64 x4 fun (x14_122_0 : Int) =>
            mLdI .u64 (x4.add 1) fun (x14_122_1 : Int) =>
            mLdI .u64 x4 fun (x12_123_0 : Int) =>
            mLdI .u64 (x4.add 1) fun (x12_123_1 : Int) =>
            mBind (N_hyper_Less x11_120_0 x11_120_1 x12_123_0 x12_123_1) fun r13_124 =>
            unB r13_124 fun (x13_124 : Bool) =>
            mBind (N_hyper_Less x14_122_0 x14_122_1 x15_121_0 x15_121_1) fun r16_125 =>
            unB r16_125 fun (x16_125 : Bool) =>
            K_signalboxlaw32_HyperOrders_4 x3 x4 x5 x13_124 x16_125)))) (
      mAnd (
        mLdI .u64 x4 fun (x12_73_0 : Int) =>
        mLdI .u64 (x4.add 1) fun (x12_73_1 : Int) =>
        mAnd (
          mLdI .u64 x3 fun (x11_98_0 : Int) =>
          mLdI .u64 (x3.add 1) fun (x11_98_1 : Int) =>
          mAnd (
            mBind (N_hyper_Less x11_98_0 x11_98_1 x12_73_0 x12_73_1) fun r13_113 =>
            unB r13_113 fun (x13_113 : Bool) =>
            mAnd (
              mLdI .u64 x4 fun (x14_117_0 : Int) =>
              mLdI .u64 (x4.add 1) fun (x14_117_1 : Int) =>
              mLdI .u64 x3 fun (x15_118_0 : Int) =>
              mLdI .u64 (x3.add 1) fun (x15_118_1 : Int) =>
              mBind (N_hyper_Less x14_117_0 x14_117_1 x15_118_0 x15_118_1) fun r16_119 =>
              unB r16_119 fun (x16_119 : Bool) =>
              K_signalboxlaw32_HyperOrders_4 x3 x4 x5 x13_113 x16_119) (
              mLdI .u64 x3 fun (x15_114_0 : Int) =>
              mLdI .u64 (x3.add 1) fun (x15_114_1 : Int) =>
              mLdI .u64 x4 fun (x14_115_0 : Int) =>
              mLdI .u64 (x4.add 1) fun (x14_115_1 : Int) =>
              mBind (N_hyper_Less x14_115_0 x14_115_1 x15_114_0 x15_114_1) fun r16_116 =>
              unB r16_116 fun (x16_116 : Bool) =>
              K_signalboxlaw32_HyperOrders_4 x3 x4 x5 x13_113 x16_116)) (
            mAnd (
              mLdI .u64 x4 fun (x14_106_0 : Int) =>
              mLdI .u64 (x4.add 1) fun (x14_106_1 : Int) =>
              mAnd (
                mBind (N_hyper_Less x11_98_0 x11_98_1 x12_73_0 x12_73_1) fun r13_110 =>
                unB r13_110 fun (x13_110 : Bool) =>
                mLdI .u64 x3 fun (x15_111_0 : Int) =>
                mLdI .u64 (x3.add 1) fun (x15_111_1 : Int) =>
                mBind (N_hyper_Less x14_106_0 x14_106_1 x15_111_0 x15_111_1) fun r16_112 =>
                unB r16_112 fun (x16_112 : Bool) =>
                K_signalboxlaw32_HyperOrders_4 x3 x4 x5 x13_110 x16_112) (
                mLdI .u64 x3 fun (x15_107_0 : Int) =>
                mLdI .u64 (x3.add 1) fun (x15_107_1 : Int) =>
                mBind (N_hyper_Less x11_98_0 x11_98_1 x12_73_0 x12_73_1) fun r13_108 =>
                unB r13_108 fun (x13_108 : Bool) =>
                mBind (N_hyper_Less x14_106_0 x14_106_1 x15_107_0 x15_107_1) fun r16_109 =>
                unB r16_109 fun (x16_109 : Bool) =>
                K_signalboxlaw32_HyperOrders_4 x3 x4 x5 x13_108 x16_109)) (
              mLdI .u64 x3 fun (x15_99_0 : Int) =>
              mLdI .u64 (x3.add 1) fun (x15_99_1 : Int) =>
              mAnd (
                mBind (N_hyper_Less x11_98_0 x11_98_1 x12_73_0 x12_73_1) fun r13_103 =>
                unB r13_103 fun (x13_103 : Bool) =>
                mLdI .u64 x4 fun (x14_104_0 : Int) =>
                mLdI .u64 (x4.add 1) fun (x14_104_1 : Int) =>
                mBind (N_hyper_Less x14_104_0 x14_104_1 x15_99_0 x15_99_1) fun r16_105 =>
                unB r16_105 fun (x16_105 : Bool) =>
                K_signalboxlaw32_HyperOrders_4 x3 x4 x5 x13_103 x16_105) (
                mLdI .u64 x4 fun (x14_100_0 : Int) =>
                mLdI .u64 (x4.add 1) fun (x14_100_1 : Int) =>
                mBind (N_hyper_Less x11_98_0 x11_98_1 x12_73_0 x12_73_1) fun r13_101 =>
                unB r13_101 fun (x13_101 : Bool) =>
                mBind (N_hyper_Less x14_100_0 x14_100_1 x15_99_0 x15_99_1) fun r16_102 =>
                unB r16_102 fun (x16_102 : Bool) =>
                K_signalboxlaw32_HyperOrders_4 x3 x4 x5 x13_101 x16_102)))) (
          mAnd (
            mLdI .u64 x4 fun (x14_86_0 : Int) =>
            mLdI .u64 (x4.add 1) fun (x14_86_1 : Int) =>
            mAnd (
              mLdI .u64 x3 fun (x11_91_0 : Int) =>
              mLdI .u64 (x3.add 1) fun (x11_91_1 : Int) =>
              mAnd (
                mBind (N_hyper_Less x11_91_0 x11_91_1 x12_73_0 x12_73_1) fun r13_95 =>
                unB r13_95 fun (x13_95 : Bool) =>
                mLdI .u64 x3 fun (x15_96_0 : Int) =>
                mLdI .u64 (x3.add 1) fun (x15_96_1 : Int) =>
                mBind (N_hyper_Less x14_86_0 x14_86_1 x15_96_0 x15_96_1) fun r16_97 =>
                unB r16_97 fun (x16_97 : Bool) =>
                K_signalboxlaw32_HyperOrders_4 x3 x4 x5 x13_95 x16_97) (
                mLdI .u64 x3 fun (x15_92_0 : Int) =>
                mLdI .u64 (x3.add 1) fun (x15_92_1 : Int) =>
                mBind (N_hyper_Less x11_91_0 x11_91_1 x12_73_0 x12_73_1) fun r13_93 =>
                unB r13_93 fun (x13_93 : Bool) =>
                mBind (N_hyper_Less x14_86_0 x14_86_1 x15_92_0 x15_92_1) fun r16_94 =>
                unB r16_94 fun (x16_94 : Bool) =>
                K_signalboxlaw32_HyperOrders_4 x3 x4 x5 x13_93 x16_94)) (
              mLdI .u64 x3 fun (x15_87_0 : Int) =>
              mLdI .u64 (x3.add 1) fun (x15_87_1 : Int) =>
              mLdI .u64 x3 fun (x11_88_0 : Int) =>
              mLdI .u64 (x3.add 1) fun (x11_88_1 : Int) =>
              mBind (N_hyper_Less x11_88_0 x11_88_1 x12_73_0 x12_73_1) fun r13_89 =>
              unB r13_89 fun (x13_89 : Bool) =>
              mBind (N_hyper_Less x14_86_0 x14_86_1 x15_87_0 x15_87_1) fun r16_90 =>
              unB r16_90 fun (x16_90 : Bool) =>
              K_signalboxlaw32_HyperOrders_4 x3 x4 x5 x13_89 x16_90)) (
            mLdI .u64 x3 fun (x15_74_0 : Int) =>
            mLdI .u64 (x3.add 1) fun (x15_74_1 : Int) =>
            mAnd (
              mLdI .u64 x3 fun (x11_79_0 : Int) =>
              mLdI .u64 (x3.add 1) fun (x11_79_1 : Int) =>
              mAnd (
                mBind (N_hyper_Less x11_79_0 x11_79_1 x12_73_0 x12_73_1) fun r13_83 =>
                unB r13_83 fun (x13_83 : Bool) =>
                mLdI .u64 x4 fun (x14_84_0 : Int) =>
                mLdI .u64 (x4.add 1) fun (x14_84_1 : Int) =>
                mBind (N_hyper_Less x14_84_0 x14_84_1 x15_74_0 x15_74_1) fun r16_85 =>
                unB r16_85 fun (x16_85 : Bool) =>
                K_signalboxlaw32_HyperOrders_4 x3 x4 x5 x13_83 x16_85) (
                mLdI .u64 x4 fun (x14_80_0 : Int) =>
                mLdI .u64 (x4.add 1) fun (x14_80_1 : Int) =>
                mBind (N_hyper_Less x11_79_0 x11_79_1 x12_73_0 x12_73_1) fun r13_81 =>
                unB r13_81 fun (x13_81 : Bool) =>
                mBind (N_hyper_Less x14_80_0 x14_80_1 x15_74_0 x15_74_1) fun r16_82 =>
                unB r16_82 fun (x16_82 : Bool) =>
                K_signalboxlaw32_HyperOrders_4 x3 x4 x5 x13_81 x16_82)) (
              mLdI .u64 x4 fun (x14_75_0 : Int) =>
              mLdI .u64 (x4.add 1) fun (x14_75_1 : Int) =>
              mLdI .u64 x3 fun (x11_76_0 : Int) =>
              mLdI .u64 (x3.add 1) fun (x11_76_1 : Int) =>
              mBind (N_hyper_Less x11_76_0 x11_76_1 x12_73_0 x12_73_1) fun r13_77 =>
              unB r13_77 fun (x13_77 : Bool) =>
              mBind (N_hyper_Less x14_75_0 x14_75_1 x15_74_0 x15_74_1) fun r16_78 =>
              unB r16_78 fun (x16_78 : Bool) =>
              K_signalboxlaw32_HyperOrders_4 x3 x4 x5 x13_77 x16_78)))) (
        mAnd (
          mLdI .u64 x4 fun (x14_39_0 : Int) =>
          mLdI .u64 (x4.add 1) fun (x14_39_1 : Int) =>
          mAnd (
            mLdI .u64 x3 fun (x11_61_0 : Int) =>
            mLdI .u64 (x3.add 1) fun (x11_61_1 : Int) =>
            mAnd (
              mLdI .u64 x4 fun (x12_66_0 : Int) =>
              mLdI .u64 (x4.add 1) fun (x12_66_1 : Int) =>
              mAnd (
                mBind (N_hyper_Less x11_61_0 x11_61_1 x12_66_0 x12_66_1) fun r13_70 =>
                unB r13_70 fun (x13_70 : Bool) =>
                mLdI .u64 x3 fun (x15_71_0 : Int) =>
                mLdI .u64 (x3.add 1) fun (x15_71_1 : Int) =>
                mBind (N_hyper_Less x14_39_0 x14_39_1 x15_71_0 x15_71_1) fun r16_72 =>
                unB r16_72 fun (x16_72 : Bool) =>
                K_signalboxlaw32_HyperOrders_4 x3 x4 x5 x13_70 x16_72) (
                mLdI .u64 x3 fun (x15_67_0 : Int) =>
                mLdI .u64 (x3.add 1) fun (x15_67_1 : Int) =>
                mBind (N_hyper_Less x11_61_0 x11_61_1 x12_66_0 x12_66_1) fun r13_68 =>
                unB r13_68 fun (x13_68 : Bool) =>
                mBind (N_hyper_Less x14_39_0 x14_39_1 x15_67_0 x15_67_1) fun r16_69 =>
                unB r16_69 fun (x16_69 : Bool) =>
                K_signalboxlaw32_HyperOrders_4 x3 x4 x5 x13_68 x16_69)) (
              mLdI .u64 x3 fun (x15_62_0 : Int) =>
              mLdI .u64 (x3.add 1) fun (x15_62_1 : Int) =>
              mLdI .u64 x4 fun (x12_63_0 : Int) =>
              mLdI .u64 (x4.add 1) fun (x12_63_1 : Int) =>
              mBind (N_hyper_Less x11_61_0 x11_61_1 x12_63_0 x12_63_1) fun r13_64 =>
              unB r13_64 fun (x13_64 : Bool) =>
              mBind (N_hyper_Less x14_39_0 x14_39_1 x15_62_0 x15_62_1) fun r16_65 =>
              unB r16_65 fun (x16_65 : Bool) =>
              K_signalboxlaw32_HyperOrders_4 x3 x4 x5 x13_64 x16_65)) (
            mAnd (
              mLdI .u64 x4 fun (x12_49_0 : Int) =>
              mLdI .u64 (x4.add 1) fun (x12_49_1 : Int) =>
              mAnd (
                mLdI .u64 x3 fun (x11_54_0 : Int) =>
                mLdI .u64 (x3.add 1) fun (x11_54_1 : Int) =>
                mAnd (
                  mBind (N_hyper_Less x11_54_0 x11_54_1 x12_49_0 x12_49_1) fun r13_58 =>
                  unB r13_58 fun (x13_58 : Bool) =>
                  mLdI .u64 x3 fun (x15_59_0 : Int) =>
                  mLdI .u64 (x3.add 1) fun (x15_59_1 : Int) =>
                  mBind (N_hyper_Less x14_39_0 x14_39_1 x15_59_0 x15_59_1) fun r16_60 =>
                  unB r16_60 fun (x16_60 : Bool) =>
                  K_signalboxlaw32_HyperOrders_4 x3 x4 x5 x13_58 x16_60) (
                  mLdI .u64 x3 fun (x15_55_0 : Int) =>
                  mLdI .u64 (x3.add 1) fun (x15_55_1 : Int) =>
                  mBind (N_hyper_Less x11_54_0 x11_54_1 x12_49_0 x12_49_1) fun r13_56 =>
                  unB r13_56 fun (x13_56 : Bool) =>
                  mBind (N_hyper_Less x14_39_0 x14_39_1 x15_55_0 x15_55_1) fun r16_57 =>
                  unB r16_57 fun (x16_57 : Bool) =>
                  K_signalboxlaw32_HyperOrders_4 x3 x4 x5 x13_56 x16_57)) (
                mLdI .u64 x3 fun (x15_50_0 : Int) =>
                mLdI .u64 (x3.add 1) fun (x15_50_1 : Int) =>
                mLdI .u64 x3 fun (x11_51_0 : Int) =>
                mLdI .u64 (x3.add 1) fun (x11_51_1 : Int) =>
                mBind (N_hyper_Less x11_51_0 x11_51_1 x12_49_0 x12_49_1) fun r13_52 =>
                unB r13_52 fun (x13_52 : Bool) =>
                mBind (N_hyper_Less x14_39_0 x14_39_1 x15_50_0 x15_50_1) fun r16_53 =>
                unB r16_53 fun (x16_53 : Bool) =>
                K_signalboxlaw32_HyperOrders_4 x3 x4 x5 x13_52 x16_53)) (
              mLdI .u64 x3 fun (x15_40_0 : Int) =>
              mLdI .u64 (x3.add 1) fun (x15_40_1 : Int) =>
              mAnd (
                mLdI .u64 x3 fun (x11_45_0 : Int) =>
                mLdI .u64 (x3.add 1) fun (x11_45_1 : Int) =>
                mLdI .u64 x4 fun (x12_46_0 : Int) =>
                mLdI .u64 (x4.add 1) fun (x12_46_1 : Int) =>
                mBind (N_hyper_Less x11_45_0 x11_45_1 x12_46_0 x12_46_1) fun r13_47 =>
                unB r13_47 fun (x13_47 : Bool) =>
                mBind (N_hyper_Less x14_39_0 x14_39_1 x15_40_0 x15_40_1) fun r16_48 =>
                unB r16_48 fun (x16_48 : Bool) =>
                K_signalboxlaw32_HyperOrders_4 x3 x4 x5 x13_47 x16_48) (
                mLdI .u64 x4 fun (x12_41_0 : Int) =>
                mLdI .u64 (x4.add 1) fun (x12_41_1 : Int) =>
                mLdI .u64 x3 fun (x11_42_0 : Int) =>
                mLdI .u64 (x3.add 1) fun (x11_42_1 : Int) =>
                mBind (N_hyper_Less x11_42_0 x11_42_1 x12_41_0 x12_41_1) fun r13_43 =>
                unB r13_43 fun (x13_43 : Bool) =>
                mBind (N_hyper_Less x14_39_0 x14_39_1 x15_40_0 x15_40_1) fun r16_44 =>
                unB r16_44 fun (x16_44 : Bool) =>
                K_signalboxlaw32_HyperOrders_4 x3 x4 x5 x13_43 x16_44)))) (
          mLdI .u64 x3 fun (x15_0 : Int) =>
          mLdI .u64 (x3.add 1) fun (x15_1 : Int) =>
          mAnd (
            mLdI .u64 x3 fun (x11_27_0 : Int) =>
            mLdI .u64 (x3.add 1) fun (x11_27_1 : Int) =>
            mAnd (
              mLdI .u64 x4 fun (x12_32_0 : Int) =>
              mLdI .u64 (x4.add 1) fun (x12_32_1 : Int) =>
              mAnd (
                mBind (N_hyper_Less x11_27_0 x11_27_1 x12_32_0 x12_32_1) fun r13_36 =>
                unB r13_36 fun (x13_36 : Bool) =>
                mLdI .u64 x4 fun (x14_37_0 : Int) =>
                mLdI .u64 (x4.add 1) fun (x14_37_1 : Int) =>
                mBind (N_hyper_Less x14_37_0 x14_37_1 x15_0 x15_1) fun r16_38 =>
                unB r16_38 fun (x16_38 : Bool) =>
                K_signalboxlaw32_HyperOrders_4 x3 x4 x5 x13_36 x16_38) (
                mLdI .u64 x4 fun (x14_33_0 : Int) =>
                mLdI .u64 (x4.add 1) fun (x14_33_1 : Int) =>
                mBind (N_hyper_Less x11_27_0 x11_27_1 x12_32_0 x12_32_1) fun r13_34 =>
                unB r13_34 fun (x13_34 : Bool) =>
                mBind (N_hyper_Less x14_33_0 x14_33_1 x15_0 x15_1) fun r16_35 =>
                unB r16_35 fun (x16_35 : Bool) =>
                K_signalboxlaw32_HyperOrders_4 x3 x4 x5 x13_34 x16_35)) (
              mLdI .u64 x4 fun (x14_28_0 : Int) =>
              mLdI .u64 (x4.add 1) fun (x14_28_1 : Int) =>
              mLdI .u64 x4 fun (x12_29_0 : Int) =>
              mLdI .u64 (x4.add 1) fun (x12_29_1 : Int) =>
              mBind (N_hyper_Less x11_27_0 x11_27_1 x12_29_0 x12_29_1) fun r13_30 =>
              unB r13_30 fun (x13_30 : Bool) =>
              mBind (N_hyper_Less x14_28_0 x14_28_1 x15_0 x15_1) fun r16_31 =>
              unB r16_31 fun (x16_31 : Bool) =>
              K_signalboxlaw32_HyperOrders_4 x3 x4 x5 x13_30 x16_31)) (
            mAnd (
              mLdI .u64 x4 fun (x12_15_0 : Int) =>
              mLdI .u64 (x4.add 1) fun (x12_15_1 : Int) =>
              mAnd (
                mLdI .u64 x3 fun (x11_20_0 : Int) =>
                mLdI .u64 (x3.add 1) fun (x11_20_1 : Int) =>
                mAnd (
                  mBind (N_hyper_Less x11_20_0 x11_20_1 x12_15_0 x12_15_1) fun r13_24 =>
                  unB r13_24 fun (x13_24 : Bool) =>
                  mLdI .u64 x4 fun (x14_25_0 : Int) =>
                  mLdI .u64 (x4.add 1) fun (x14_25_1 : Int) =>
                  mBind (N_hyper_Less x14_25_0 x14_25_1 x15_0 x15_1) fun r16_26 =>
                  unB r16_26 fun (x16_26 : Bool) =>
                  K_signalboxlaw32_HyperOrders_4 x3 x4 x5 x13_24 x16_26) (
                  mLdI .u64 x4 fun (x14_21_0 : Int) =>
                  mLdI .u64 (x4.add 1) fun (x14_21_1 : Int) =>
                  mBind (N_hyper_Less x11_20_0 x11_20_1 x12_15_0 x12_15_1) fun r13_22 =>
                  unB r13_22 fun (x13_22 : Bool) =>
                  mBind (N_hyper_Less x14_21_0 x14_21_1 x15_0 x15_1) fun r16_23 =>
                  unB r16_23 fun (x16_23 : Bool) =>
                  K_signalboxlaw32_HyperOrders_4 x3 x4 x5 x13_22 x16_23)) (
                mLdI .u64 x4 fun (x14_16_0 : Int) =>
                mLdI .u64 (x4.add 1) fun (x14_16_1 : Int) =>
                mLdI .u64 x3 fun (x11_17_0 : Int) =>
                mLdI .u64 (x3.add 1) fun (x11_17_1 : Int) =>
                mBind (N_hyper_Less x11_17_0 x11_17_1 x12_15_0 x12_15_1) fun r13_18 =>
                unB r13_18 fun (x13_18 : Bool) =>
                mBind (N_hyper_Less x14_16_0 x14_16_1 x15_0 x15_1) fun r16_19 =>
                unB r16_19 fun (x16_19 : Bool) =>
                K_signalboxlaw32_HyperOrders_4 x3 x4 x5 x13_18 x16_19)) (
              mLdI .u64 x4 fun (x14_0 : Int) =>
              mLdI .u64 (x4.add 1) fun (x14_1 : Int) =>
              mAnd (
                mLdI .u64 x3 fun (x11_11_0 : Int) =>
                mLdI .u64 (x3.add 1) fun (x11_11_1 : Int) =>
                mLdI .u64 x4 fun (x12_12_0 : Int) =>
                mLdI .u64 (x4.add 1) fun (x12_12_1 : Int) =>
                mBind (N_hyper_Less x11_11_0 x11_11_1 x12_12_0 x12_12_1) fun r13_13 =>
                unB r13_13 fun (x13_13 : Bool) =>
                mBind (N_hyper_Less x14_0 x14_1 x15_0 x15_1) fun r16_14 =>
                unB r16_14 fun (x16_14 : Bool) =>
                K_signalboxlaw32_HyperOrders_4 x3 x4 x5 x13_13 x16_14) (
                mLdI .u64 x4 fun (x12_0 : Int) =>
                mLdI .u64 (x4.add 1) fun (x12_1 : Int) =>
                mLdI .u64 x3 fun (x11_0 : Int) =>
                mLdI .u64 (x3.add 1) fun (x11_1 : Int) =>
                mBind (N_hyper_Less x11_0 x11_1 x12_0 x12_1) fun r13 =>
                unB r13 fun (x13 : Bool) =>
                mBind (N_hyper_Less x14_0 x14_1 x15_0 x15_1) fun r16 =>
                unB r16 fun (x16 : Bool) =>
                K_signalboxlaw32_HyperOrders_4 x3 x4 x5 x13 x16)))))))
def B_signalboxlaw32_HyperOrders_4_tt (_a3 : Addr) (_b4 : Addr) (_c5 : Addr) : M Value :=
  mAnd (
    mAnd (
      mAnd (
        mAnd (
          mAnd (
            mRet (.bool false)) (
            mRet (.bool false))) (
          mRet (.bool false))) (
        mAnd (
          mAnd (
            mRet (.bool false)) (
            mRet (.bool false))) (
          mRet (.bool false)))) (
      mAnd (
        mAnd (
          mAnd (
            mRet (.bool false)) (
            mRet (.bool false))) (
          mRet (.bool false))) (
        mAnd (
          mAnd (
            mRet (.bool false)) (
            mRet (.bool false))) (
          mRet (.bool false))))) (
    mAnd (
      mAnd (
        mAnd (
          mAnd (
            mRet (.bool false)) (
            mRet (.bool false))) (
          mRet (.bool false))) (
        mAnd (
          mAnd (
            mRet (.bool false)) (
            mRet (.bool false))) (
          mRet (.bool false)))) (
      mAnd (
        mAnd (
          mAnd (
            mRet (.bool false)) (
            mRet (.bool false))) (
          mRet (.bool false))) (
        mAnd (
          mAnd (
            mRet (.bool false)) (
            mRet (.bool false))) (
          mRet (.bool false)))))
def B_signalboxlaw32_HyperOrders_4_tf (a3 : Addr) (b4 : Addr) (c5 : Addr) : M Value :=
  mAnd (
    mLdI .u64 a3 fun (x23_188_0 : Int) =>
    mLdI .u64 (a3.add 1) fun (x23_188_1 : Int) =>
    mLdI .u64 a3 fun (x24_189_0 : Int) =>
    mLdI .u64 (a3.add 1) fun (x24_189_1 : Int) =>
    mBind (N_hyper_Less x23_188_0 x23_188_1 x24_189_0 x24_189_1) fun r25_190 =>
    unB r25_190 fun (x25_190 : Bool) =>
    mIf (!x25_190) (
      mAnd (
        mLdI .u64 b4 fun (x32_200_0 : Int) =>
        mLdI .u64 (b4.add 1) fun (x32_200_1 : Int) =>
        mLdI .u64 c5 fun (x33_201_0 : Int) =>
        mLdI .u64 (c5.add 1) fun (x33_201_1 : Int) =>
        mBind (N_hyper_Less x32_200_0 x32_200_1 x33_201_0 x33_201_1) fun r34_202 =>
        unB r34_202 fun (x34_202 : Bool) =>
        mAnd (
          mIf (!x34_202) (
            mAnd (
              mAnd (
                mRet (.bool true)) (
                mRet (.bool true))) (
              mRet (.bool true))) (
            mLdI .u64 a3 fun (x38_206_0 : Int) =>
            mLdI .u64 (a3.add 1) fun (x38_206_1 : Int) =>
            mLdI .u64 c5 fun (x39_207_0 : Int) =>
            mLdI .u64 (c5.add 1) fun (x39_207_1 : Int) =>
            mBind (N_hyper_Less x38_206_0 x38_206_1 x39_207_0 x39_207_1) fun r40_208 =>
            unB r40_208 fun (x40_208 : Bool) =>
            mIf x40_208 (
              mAnd (
                mAnd (
                  mRet (.bool true)) (
                  mRet (.bool true))) (
                mRet (.bool true))) (
              mAnd (
                mAnd (
                  mRet (.bool false)) (
                  mRet (.bool false))) (
                mRet (.bool false))))) (
          mIf (!x34_202) (
            mAnd (
              mAnd (
                mRet (.bool true)) (
                mRet (.bool true))) (
              mRet (.bool true))) (
            mLdI .u64 c5 fun (x39_203_0 : Int) =>
            mLdI .u64 (c5.add 1) fun (x39_203_1 : Int) =>
            mLdI .u64 a3 fun (x38_204_0 : Int) =>
            mLdI .u64 (a3.add 1) fun (x38_204_1 : Int) =>
            mBind (N_hyper_Less x38_204_0 x38_204_1 x39_203_0 x39_203_1) fun r40_205 =>
            unB r40_205 fun (x40_205 : Bool) =>
            mIf x40_205 (
              mAnd (
                mAnd (
                  mRet (.bool true)) (
                  mRet (.bool true))) (
                mRet (.bool true))) (
              mAnd (
                mAnd (
                  mRet (.bool false)) (
                  mRet (.bool false))) (
                mRet (.bool false)))))) (
        mLdI .u64 c5 fun (x33_191_0 : Int) =>
        mLdI .u64 (c5.add 1) fun (x33_191_1 : Int) =>
        mLdI .u64 b4 fun (x32_192_0 : Int) =>
        mLdI .u64 (b4.add 1) fun (x32_192_1 : Int) =>
        mBind (N_hyper_Less x32_192_0 x32_192_1 x33_191_0 x33_191_1) fun r34_193 =>
        unB r34_193 fun (x34_193 : Bool) =>
        mAnd (
          mIf (!x34_193) (
            mAnd (
              mAnd (
                mRet (.bool true)) (
                mRet (.bool true))) (
              mRet (.bool true))) (
            mLdI .u64 a3 fun (x38_197_0 : Int) =>
            mLdI .u64 (a3.add 1) fun (x38_197_1 : Int) =>
            mLdI .u64 c5 fun (x39_198_0 : Int) =>
            mLdI .u64 (c5.add 1) fun (x39_198_1 : Int) =>
            mBind (N_hyper_Less x38_197_0 x38_197_1 x39_198_0 x39_198_1) fun r40_199 =>
            unB r40_199 fun (x40_199 : Bool) =>
            mIf x40_199 (
              mAnd (
                mAnd (
                  mRet (.bool true)) (
                  mRet (.bool true))) (
                mRet (.bool true))) (
              mAnd (
                mAnd (
                  mRet (.bool false)) (
                  mRet (.bool false))) (
                mRet (.bool false))))) (
          mIf (!x34_193) (
            mAnd (
              mAnd (
                mRet (.bool true)) (
                mRet (.bool true))) (
              mRet (.bool true))) (
            mLdI .u64 c5 fun (x39_194_0 : Int) =>
            mLdI .u64 (c5.add 1) fun (x39_194_1 : Int) =>
            mLdI .u64 a3 fun (x38_195_0 : Int) =>
            mLdI .u64 (a3.add 1) fun (x38_195_1 : Int) =>
            mBind (N_hyper_Less x38_195_0 x38_195_1 x39_194_0 x39_194_1) fun r40_196 =>
            unB r40_196 fun (x40_196 : Bool) =>
            mIf x40_196 (
              mAnd (
                mAnd (
                  mRet (.bool true)) (
                  mRet (.bool true))) (
                mRet (.bool true))) (
              mAnd (
                mAnd (
                  mRet (.bool false)) (
                  mRet (.bool false))) (
                mRet (.bool false))))))) (
      mAnd (
        mAnd (
          mAnd (
            mAnd (
              mRet (.bool false)) (
              mRet (.bool false))) (
            mRet (.bool false))) (
          mAnd (
            mAnd (
              mRet (.bool false)) (
              mRet (.bool false))) (
            mRet (.bool false)))) (
        mAnd (
          mAnd (
            mAnd (
              mRet (.bool false)) (
              mRet (.bool false))) (
            mRet (.bool false))) (
          mAnd (
            mAnd (
              mRet (.bool false)) (
              mRet (.bool false))) (
            mRet (.bool false)))))) (
    mLdI .u64 a3 fun (x24_0 : Int) =>
    mLdI .u64 (a3.add 1) fun (x24_1 : Int) =>
    mLdI .u64 a3 fun (x23_0 : Int) =>
    mLdI .u64 (a3.add 1) fun (x23_1 : Int) =>
    mBind (N_hyper_Less x23_0 x23_1 x24_0 x24_1) fun r25 =>
    unB r25 fun (x25 : Bool) =>
    mIf (!x25) (
      mAnd (
        mLdI .u64 b4 fun (x32_179_0 : Int) =>
        mLdI .u64 (b4.add 1) fun (x32_179_1 : Int) =>
        mLdI .u64 c5 fun (x33_180_0 : Int) =>
        mLdI .u64 (c5.add 1) fun (x33_180_1 : Int) =>
        mBind (N_hyper_Less x32_179_0 x32_179_1 x33_180_0 x33_180_1) fun r34_181 =>
        unB r34_181 fun (x34_181 : Bool) =>
        mAnd (
          mIf (!x34_181) (
            mAnd (
              mAnd (
                mRet (.bool true)) (
                mRet (.bool true))) (
              mRet (.bool true))) (
            mLdI .u64 a3 fun (x38_185_0 : Int) =>
            mLdI .u64 (a3.add 1) fun (x38_185_1 : Int) =>
            mLdI .u64 c5 fun (x39_186_0 : Int) =>
            mLdI .u64 (c5.add 1) fun (x39_186_1 : Int) =>
            mBind (N_hyper_Less x38_185_0 x38_185_1 x39_186_0 x39_186_1) fun r40_187 =>
            unB r40_187 fun (x40_187 : Bool) =>
            mIf x40_187 (
              mAnd (
                mAnd (
                  mRet (.bool true)) (
                  mRet (.bool true))) (
                mRet (.bool true))) (
              mAnd (
                mAnd (
                  mRet (.bool false)) (
                  mRet (.bool false))) (
                mRet (.bool false))))) (
          mIf (!x34_181) (
            mAnd (
              mAnd (
                mRet (.bool true)) (
                mRet (.bool true))) (
              mRet (.bool true))) (
            mLdI .u64 c5 fun (x39_182_0 : Int) =>
            mLdI .u64 (c5.add 1) fun (x39_182_1 : Int) =>
            mLdI .u64 a3 fun (x38_183_0 : Int) =>
            mLdI .u64 (a3.add 1) fun (x38_183_1 : Int) =>
            mBind (N_hyper_Less x38_183_0 x38_183_1 x39_182_0 x39_182_1) fun r40_184 =>
            unB r40_184 fun (x40_184 : Bool) =>
            mIf x40_184 (
              mAnd (
                mAnd (
                  mRet (.bool true)) (
                  mRet (.bool true))) (
                mRet (.bool true))) (
              mAnd (
                mAnd (
                  mRet (.bool false)) (
                  mRet (.bool false))) (
                mRet (.bool false)))))) (
        mLdI .u64 c5 fun (x33_0 : Int) =>
        mLdI .u64 (c5.add 1) fun (x33_1 : Int) =>
        mLdI .u64 b4 fun (x32_0 : Int) =>
        mLdI .u64 (b4.add 1) fun (x32_1 : Int) =>
        mBind (N_hyper_Less x32_0 x32_1 x33_0 x33_1) fun r34 =>
        unB r34 fun (x34 : Bool) =>
        mAnd (
          mIf (!x34) (
            mAnd (
              mAnd (
                mRet (.bool true)) (
                mRet (.bool true))) (
              mRet (.bool true))) (
            mLdI .u64 a3 fun (x38_176_0 : Int) =>
            mLdI .u64 (a3.add 1) fun (x38_176_1 : Int) =>
            mLdI .u64 c5 fun (x39_177_0 : Int) =>
            mLdI .u64 (c5.add 1) fun (x39_177_1 : Int) =>
            mBind (N_hyper_Less x38_176_0 x38_176_1 x39_177_0 x39_177_1) fun r40_178 =>
            unB r40_178 fun (x40_178 : Bool) =>
            mIf x40_178 (
              mAnd (
                mAnd (
                  mRet (.bool true)) (
                  mRet (.bool true))) (
                mRet (.bool true))) (
              mAnd (
                mAnd (
                  mRet (.bool false)) (
                  mRet (.bool false))) (
                mRet (.bool false))))) (
          mIf (!x34) (
            mAnd (
              mAnd (
                mRet (.bool true)) (
                mRet (.bool true))) (
              mRet (.bool true))) (
            mLdI .u64 c5 fun (x39_0 : Int) =>
            mLdI .u64 (c5.add 1) fun (x39_1 : Int) =>
            mLdI .u64 a3 fun (x38_0 : Int) =>
            mLdI .u64 (a3.add 1) fun (x38_1 : Int) =>
            mBind (N_hyper_Less x38_0 x38_1 x39_0 x39_1) fun r40 =>
            unB r40 fun (x40 : Bool) =>
            mIf x40 (
              mAnd (
                mAnd (
                  mRet (.bool true)) (
                  mRet (.bool true))) (
                mRet (.bool true))) (
              mAnd (
                mAnd (
                  mRet (.bool false)) (
                  mRet (.bool false))) (
                mRet (.bool false))))))) (
      mAnd (
        mAnd (
          mAnd (
            mAnd (
              mRet (.bool false)) (
              mRet (.bool false))) (
            mRet (.bool false))) (
          mAnd (
            mAnd (
              mRet (.bool false)) (
              mRet (.bool false))) (
            mRet (.bool false)))) (
        mAnd (
          mAnd (
            mAnd (
              mRet (.bool false)) (
              mRet (.bool false))) (
            mRet (.bool false))) (
          mAnd (
            mAnd (
              mRet (.bool false)) (
              mRet (.bool false))) (
            mRet (.bool false))))))
def B_signalboxlaw32_HyperOrders_4_ft (a3 : Addr) (_b4 : Addr) (_c5 : Addr) : M Value :=
  mAnd (
    mLdI .u64 a3 fun (x23_212_0 : Int) =>
    mLdI .u64 (a3.add 1) fun (x23_212_1 : Int) =>
    mLdI .u64 a3 fun (x24_213_0 : Int) =>
    mLdI .u64 (a3.add 1) fun (x24_213_1 : Int) =>
    mBind (N_hyper_Less x23_212_0 x23_212_1 x24_213_0 x24_213_1) fun r25_214 =>
    unB r25_214 fun (x25_214 : Bool) =>
    mIf (!x25_214) (
      mAnd (
        mAnd (
          mAnd (
            mAnd (
              mRet (.bool true)) (
              mRet (.bool true))) (
            mRet (.bool true))) (
          mAnd (
            mAnd (
              mRet (.bool true)) (
              mRet (.bool true))) (
            mRet (.bool true)))) (
        mAnd (
          mAnd (
            mAnd (
              mRet (.bool true)) (
              mRet (.bool true))) (
            mRet (.bool true))) (
          mAnd (
            mAnd (
              mRet (.bool true)) (
              mRet (.bool true))) (
            mRet (.bool true))))) (
      mAnd (
        mAnd (
          mAnd (
            mAnd (
              mRet (.bool false)) (
              mRet (.bool false))) (
            mRet (.bool false))) (
          mAnd (
            mAnd (
              mRet (.bool false)) (
              mRet (.bool false))) (
            mRet (.bool false)))) (
        mAnd (
          mAnd (
            mAnd (
              mRet (.bool false)) (
              mRet (.bool false))) (
            mRet (.bool false))) (
          mAnd (
            mAnd (
              mRet (.bool false)) (
              mRet (.bool false))) (
            mRet (.bool false)))))) (
    mLdI .u64 a3 fun (x24_0 : Int) =>
    mLdI .u64 (a3.add 1) fun (x24_1 : Int) =>
    mLdI .u64 a3 fun (x23_0 : Int) =>
    mLdI .u64 (a3.add 1) fun (x23_1 : Int) =>
    mBind (N_hyper_Less x23_0 x23_1 x24_0 x24_1) fun r25 =>
    unB r25 fun (x25 : Bool) =>
    mIf (!x25) (
      mAnd (
        mAnd (
          mAnd (
            mAnd (
              mRet (.bool true)) (
              mRet (.bool true))) (
            mRet (.bool true))) (
          mAnd (
            mAnd (
              mRet (.bool true)) (
              mRet (.bool true))) (
            mRet (.bool true)))) (
        mAnd (
          mAnd (
            mAnd (
              mRet (.bool true)) (
              mRet (.bool true))) (
            mRet (.bool true))) (
          mAnd (
            mAnd (
              mRet (.bool true)) (
              mRet (.bool true))) (
            mRet (.bool true))))) (
      mAnd (
        mAnd (
          mAnd (
            mAnd (
              mRet (.bool false)) (
              mRet (.bool false))) (
            mRet (.bool false))) (
          mAnd (
            mAnd (
              mRet (.bool false)) (
              mRet (.bool false))) (
            mRet (.bool false)))) (
        mAnd (
          mAnd (
            mAnd (
              mRet (.bool false)) (
              mRet (.bool false))) (
            mRet (.bool false))) (
          mAnd (
            mAnd (
              mRet (.bool false)) (
              mRet (.bool false))) (
            mRet (.bool false))))))
def B_signalboxlaw32_HyperOrders_4_ff (a3 : Addr) (b4 : Addr) (_c5 : Addr) : M Value :=
  mAnd (
    mLdI .u64 a3 fun (x23_262_0 : Int) =>
    mLdI .u64 (a3.add 1) fun (x23_262_1 : Int) =>
    mLdI .u64 a3 fun (x24_263_0 : Int) =>
    mLdI .u64 (a3.add 1) fun (x24_263_1 : Int) =>
    mBind (N_hyper_Less x23_262_0 x23_262_1 x24_263_0 x24_263_1) fun r25_264 =>
    unB r25_264 fun (x25_264 : Bool) =>
    mIf (!x25_264) (
      mAnd (
        mAnd (
          mAnd (
            mLdI .u64 a3 fun (x49_302_0 : Int) =>
            mLdI .u64 (a3.add 1) fun (x49_302_1 : Int) =>
            mAnd (
              mBind (N_hyper_Simple x49_302_0 x49_302_1) fun r50_306 =>
              unA r50_306 fun x50_306l =>
              unC x50_306l fun x50_306v0 x50_306l0 =>
              unI .u64 x50_306v0 fun (x50_306_0 : Int) =>
              unC x50_306l0 fun x50_306v1 x50_306l1 =>
              unI .u64 x50_306v1 fun (x50_306_1 : Int) =>
              unE x50_306l1 <|
              mLdI .u64 b4 fun (x51_307_0 : Int) =>
              mLdI .u64 (b4.add 1) fun (x51_307_1 : Int) =>
              mBind (N_hyper_Simple x51_307_0 x51_307_1) fun r52_308 =>
              unA r52_308 fun x52_308l =>
              unC x52_308l fun x52_308v0 x52_308l0 =>
              unI .u64 x52_308v0 fun (x52_308_0 : Int) =>
              unC x52_308l0 fun x52_308v1 x52_308l1 =>
              unI .u64 x52_308v1 fun (x52_308_1 : Int) =>
              unE x52_308l1 <|
              mRet (.bool ((x50_306_0 == x52_308_0) && ((x50_306_1 == x52_308_1) && true)))) (
              mLdI .u64 b4 fun (x51_303_0 : Int) =>
              mLdI .u64 (b4.add 1) fun (x51_303_1 : Int) =>
              mBind (N_hyper_Simple x49_302_0 x49_302_1) fun r50_304 =>
              unA r50_304 fun x50_304l =>
              unC x50_304l fun x50_304v0 x50_304l0 =>
              unI .u64 x50_304v0 fun (x50_304_0 : Int) =>
              unC x50_304l0 fun x50_304v1 x50_304l1 =>
              unI .u64 x50_304v1 fun (x50_304_1 : Int) =>
              unE x50_304l1 <|
              mBind (N_hyper_Simple x51_303_0 x51_303_1) fun r52_305 =>
              unA r52_305 fun x52_305l =>
              unC x52_305l fun x52_305v0 x52_305l0 =>
              unI .u64 x52_305v0 fun (x52_305_0 : Int) =>
              unC x52_305l0 fun x52_305v1 x52_305l1 =>
              unI .u64 x52_305v1 fun (x52_305_1 : Int) =>
              unE x52_305l1 <|
              mRet (.bool ((x50_304_0 == x52_305_0) && ((x50_304_1 == x52_305_1) && true))))) (
            mLdI .u64 b4 fun (x51_298_0 : Int) =>
            mLdI .u64 (b4.add 1) fun (x51_298_1 : Int) =>
            mLdI .u64 a3 fun (x49_299_0 : Int) =>
            mLdI .u64 (a3.add 1) fun (x49_299_1 : Int) =>
            mBind (N_hyper_Simple x49_299_0 x49_299_1) fun r50_300 =>
            unA r50_300 fun x50_300l =>
            unC x50_300l fun x50_300v0 x50_300l0 =>
            unI .u64 x50_300v0 fun (x50_300_0 : Int) =>
            unC x50_300l0 fun x50_300v1 x50_300l1 =>
            unI .u64 x50_300v1 fun (x50_300_1 : Int) =>
            unE x50_300l1 <|
            mBind (N_hyper_Simple x51_298_0 x51_298_1) fun r52_301 =>
            unA r52_301 fun x52_301l =>
            unC x52_301l fun x52_301v0 x52_301l0 =>
            unI .u64 x52_301v0 fun (x52_301_0 : Int) =>
            unC x52_301l0 fun x52_301v1 x52_301l1 =>
            unI .u64 x52_301v1 fun (x52_301_1 : Int) =>
            unE x52_301l1 <|
            mRet (.bool ((x50_300_0 == x52_301_0) && ((x50_300_1 == x52_301_1) && true))))) (
          mAnd (
            mLdI .u64 a3 fun (x49_291_0 : Int) =>
            mLdI .u64 (a3.add 1) fun (x49_291_1 : Int) =>
            mAnd (
              mBind (N_hyper_Simple x49_291_0 x49_291_1) fun r50_295 =>
              unA r50_295 fun x50_295l =>
              unC x50_295l fun x50_295v0 x50_295l0 =>
              unI .u64 x50_295v0 fun (x50_295_0 : Int) =>
              unC x50_295l0 fun x50_295v1 x50_295l1 =>
              unI .u64 x50_295v1 fun (x50_295_1 : Int) =>
              unE x50_295l1 <|
              mLdI .u64 b4 fun (x51_296_0 : Int) =>
              mLdI .u64 (b4.add 1) fun (x51_296_1 : Int) =>
              mBind (N_hyper_Simple x51_296_0 x51_296_1) fun r52_297 =>
              unA r52_297 fun x52_297l =>
              unC x52_297l fun x52_297v0 x52_297l0 =>
              unI .u64 x52_297v0 fun (x52_297_0 : Int) =>
              unC x52_297l0 fun x52_297v1 x52_297l1 =>
              unI .u64 x52_297v1 fun (x52_297_1 : Int) =>
              unE x52_297l1 <|
              mRet (.bool ((x50_295_0 == x52_297_0) && ((x50_295_1 == x52_297_1) && true)))) (
              mLdI .u64 b4 fun (x51_292_0 : Int) =>
              mLdI .u64 (b4.add 1) fun (x51_292_1 : Int) =>
              mBind (N_hyper_Simple x49_291_0 x49_291_1) fun r50_293 =>
              unA r50_293 fun x50_293l =>
              unC x50_293l fun x50_293v0 x50_293l0 =>
              unI .u64 x50_293v0 fun (x50_293_0 : Int) =>
              unC x50_293l0 fun x50_293v1 x50_293l1 =>
              unI .u64 x50_293v1 fun (x50_293_1 : Int) =>
              unE x50_293l1 <|
              mBind (N_hyper_Simple x51_292_0 x51_292_1) fun r52_294 =>
              unA r52_294 fun x52_294l =>
              unC x52_294l fun x52_294v0 x52_294l0 =>
              unI .u64 x52_294v0 fun (x52_294_0 : Int) =>
              unC x52_294l0 fun x52_294v1 x52_294l1 =>
              unI .u64 x52_294v1 fun (x52_294_1 : Int) =>
              unE x52_294l1 <|
              mRet (.bool ((x50_293_0 == x52_294_0) && ((x50_293_1 == x52_294_1) && true))))) (
            mLdI .u64 b4 fun (x51_287_0 : Int) =>
            mLdI .u64 (b4.add 1) fun (x51_287_1 : Int) =>
            mLdI .u64 a3 fun (x49_288_0 : Int) =>
            mLdI .u64 (a3.add 1) fun (x49_288_1 : Int) =>
            mBind (N_hyper_Simple x49_288_0 x49_288_1) fun r50_289 =>
            unA r50_289 fun x50_289l =>
            unC x50_289l fun x50_289v0 x50_289l0 =>
            unI .u64 x50_289v0 fun (x50_289_0 : Int) =>
            unC x50_289l0 fun x50_289v1 x50_289l1 =>
            unI .u64 x50_289v1 fun (x50_289_1 : Int) =>
            unE x50_289l1 <|
            mBind (N_hyper_Simple x51_287_0 x51_287_1) fun r52_290 =>
            unA r52_290 fun x52_290l =>
            unC x52_290l fun x52_290v0 x52_290l0 =>
            unI .u64 x52_290v0 fun (x52_290_0 : Int) =>
            unC x52_290l0 fun x52_290v1 x52_290l1 =>
            unI .u64 x52_290v1 fun (x52_290_1 : Int) =>
            unE x52_290l1 <|
            mRet (.bool ((x50_289_0 == x52_290_0) && ((x50_289_1 == x52_290_1) && true)))))) (
        mAnd (
          mAnd (
            mLdI .u64 a3 fun (x49_280_0 : Int) =>
            mLdI .u64 (a3.add 1) fun (x49_280_1 : Int) =>
            mAnd (
              mBind (N_hyper_Simple x49_280_0 x49_280_1) fun r50_284 =>
              unA r50_284 fun x50_284l =>
              unC x50_284l fun x50_284v0 x50_284l0 =>
              unI .u64 x50_284v0 fun (x50_284_0 : Int) =>
              unC x50_284l0 fun x50_284v1 x50_284l1 =>
              unI .u64 x50_284v1 fun (x50_284_1 : Int) =>
              unE x50_284l1 <|
              mLdI .u64 b4 fun (x51_285_0 : Int) =>
              mLdI .u64 (b4.add 1) fun (x51_285_1 : Int) =>
              mBind (N_hyper_Simple x51_285_0 x51_285_1) fun r52_286 =>
              unA r52_286 fun x52_286l =>
              unC x52_286l fun x52_286v0 x52_286l0 =>
              unI .u64 x52_286v0 fun (x52_286_0 : Int) =>
              unC x52_286l0 fun x52_286v1 x52_286l1 =>
              unI .u64 x52_286v1 fun (x52_286_1 : Int) =>
              unE x52_286l1 <|
              mRet (.bool ((x50_284_0 == x52_286_0) && ((x50_284_1 == x52_286_1) && true)))) (
              mLdI .u64 b4 fun (x51_281_0 : Int) =>
              mLdI .u64 (b4.add 1) fun (x51_281_1 : Int) =>
              mBind (N_hyper_Simple x49_280_0 x49_280_1) fun r50_282 =>
              unA r50_282 fun x50_282l =>
              unC x50_282l fun x50_282v0 x50_282l0 =>
              unI .u64 x50_282v0 fun (x50_282_0 : Int) =>
              unC x50_282l0 fun x50_282v1 x50_282l1 =>
              unI .u64 x50_282v1 fun (x50_282_1 : Int) =>
              unE x50_282l1 <|
              mBind (N_hyper_Simple x51_281_0 x51_281_1) fun r52_283 =>
              unA r52_283 fun x52_283l =>
              unC x52_283l fun x52_283v0 x52_283l0 =>
              unI .u64 x52_283v0 fun (x52_283_0 : Int) =>
              unC x52_283l0 fun x52_283v1 x52_283l1 =>
              unI .u64 x52_283v1 fun (x52_283_1 : Int) =>
              unE x52_283l1 <|
              mRet (.bool ((x50_282_0 == x52_283_0) && ((x50_282_1 == x52_283_1) && true))))) (
            mLdI .u64 b4 fun (x51_276_0 : Int) =>
            mLdI .u64 (b4.add 1) fun (x51_276_1 : Int) =>
            mLdI .u64 a3 fun (x49_277_0 : Int) =>
            mLdI .u64 (a3.add 1) fun (x49_277_1 : Int) =>
            mBind (N_hyper_Simple x49_277_0 x49_277_1) fun r50_278 =>
            unA r50_278 fun x50_278l =>
            unC x50_278l fun x50_278v0 x50_278l0 =>
            unI .u64 x50_278v0 fun (x50_278_0 : Int) =>
            unC x50_278l0 fun x50_278v1 x50_278l1 =>
            unI .u64 x50_278v1 fun (x50_278_1 : Int) =>
            unE x50_278l1 <|
            mBind (N_hyper_Simple x51_276_0 x51_276_1) fun r52_279 =>
            unA r52_279 fun x52_279l =>
            unC x52_279l fun x52_279v0 x52_279l0 =>
            unI .u64 x52_279v0 fun (x52_279_0 : Int) =>
            unC x52_279l0 fun x52_279v1 x52_279l1 =>
            unI .u64 x52_279v1 fun (x52_279_1 : Int) =>
            unE x52_279l1 <|
            mRet (.bool ((x50_278_0 == x52_279_0) && ((x50_278_1 == x52_279_1) && true))))) (
          mAnd (
            mLdI .u64 a3 fun (x49_269_0 : Int) =>
            mLdI .u64 (a3.add 1) fun (x49_269_1 : Int) =>
            mAnd (
              mBind (N_hyper_Simple x49_269_0 x49_269_1) fun r50_273 =>
              unA r50_273 fun x50_273l =>
              unC x50_273l fun x50_273v0 x50_273l0 =>
              unI .u64 x50_273v0 fun (x50_273_0 : Int) =>
              unC x50_273l0 fun x50_273v1 x50_273l1 =>
              unI .u64 x50_273v1 fun (x50_273_1 : Int) =>
              unE x50_273l1 <|
              mLdI .u64 b4 fun (x51_274_0 : Int) =>
              mLdI .u64 (b4.add 1) fun (x51_274_1 : Int) =>
              mBind (N_hyper_Simple x51_274_0 x51_274_1) fun r52_275 =>
              unA r52_275 fun x52_275l =>
              unC x52_275l fun x52_275v0 x52_275l0 =>
              unI .u64 x52_275v0 fun (x52_275_0 : Int) =>
              unC x52_275l0 fun x52_275v1 x52_275l1 =>
              unI .u64 x52_275v1 fun (x52_275_1 : Int) =>
              unE x52_275l1 <|
              mRet (.bool ((x50_273_0 == x52_275_0) && ((x50_273_1 == x52_275_1) && true)))) (
              mLdI .u64 b4 fun (x51_270_0 : Int) =>
              mLdI .u64 (b4.add 1) fun (x51_270_1 : Int) =>
              mBind (N_hyper_Simple x49_269_0 x49_269_1) fun r50_271 =>
              unA r50_271 fun x50_271l =>
              unC x50_271l fun x50_271v0 x50_271l0 =>
              unI .u64 x50_271v0 fun (x50_271_0 : Int) =>
              unC x50_271l0 fun x50_271v1 x50_271l1 =>
              unI .u64 x50_271v1 fun (x50_271_1 : Int) =>
              unE x50_271l1 <|
              mBind (N_hyper_Simple x51_270_0 x51_270_1) fun r52_272 =>
              unA r52_272 fun x52_272l =>
              unC x52_272l fun x52_272v0 x52_272l0 =>
              unI .u64 x52_272v0 fun (x52_272_0 : Int) =>
              unC x52_272l0 fun x52_272v1 x52_272l1 =>
              unI .u64 x52_272v1 fun (x52_272_1 : Int) =>
              unE x52_272l1 <|
              mRet (.bool ((x50_271_0 == x52_272_0) && ((x50_271_1 == x52_272_1) && true))))) (
            mLdI .u64 b4 fun (x51_265_0 : Int) =>
            mLdI .u64 (b4.add 1) fun (x51_265_1 : Int) =>
            mLdI .u64 a3 fun (x49_266_0 : Int) =>
            mLdI .u64 (a3.add 1) fun (x49_266_1 : Int) =>
            mBind (N_hyper_Simple x49_266_0 x49_266_1) fun r50_267 =>
            unA r50_267 fun x50_267l =>
            unC x50_267l fun x50_267v0 x50_267l0 =>
            unI .u64 x50_267v0 fun (x50_267_0 : Int) =>
            unC x50_267l0 fun x50_267v1 x50_267l1 =>
            unI .u64 x50_267v1 fun (x50_267_1 : Int) =>
            unE x50_267l1 <|
            mBind (N_hyper_Simple x51_265_0 x51_265_1) fun r52_268 =>
            unA r52_268 fun x52_268l =>
            unC x52_268l fun x52_268v0 x52_268l0 =>
            unI .u64 x52_268v0 fun (x52_268_0 : Int) =>
            unC x52_268l0 fun x52_268v1 x52_268l1 =>
            unI .u64 x52_268v1 fun (x52_268_1 : Int) =>
            unE x52_268l1 <|
            mRet (.bool ((x50_267_0 == x52_268_0) && ((x50_267_1 == x52_268_1) && true))))))) (
      mAnd (
        mAnd (
          mAnd (
            mAnd (
              mRet (.bool false)) (
              mRet (.bool false))) (
            mRet (.bool false))) (
          mAnd (
            mAnd (
              mRet (.bool false)) (
              mRet (.bool false))) (
            mRet (.bool false)))) (
        mAnd (
          mAnd (
            mAnd (
              mRet (.bool false)) (
              mRet (.bool false))) (
            mRet (.bool false))) (
          mAnd (
            mAnd (
              mRet (.bool false)) (
              mRet (.bool false))) (
            mRet (.bool false)))))) (
    mLdI .u64 a3 fun (x24_0 : Int) =>
    mLdI .u64 (a3.add 1) fun (x24_1 : Int) =>
    mLdI .u64 a3 fun (x23_0 : Int) =>
    mLdI .u64 (a3.add 1) fun (x23_1 : Int) =>
    mBind (N_hyper_Less x23_0 x23_1 x24_0 x24_1) fun r25 =>
    unB r25 fun (x25 : Bool) =>
    mIf (!x25) (
      mAnd (
        mAnd (
          mAnd (
            mLdI .u64 a3 fun (x49_255_0 : Int) =>
            mLdI .u64 (a3.add 1) fun (x49_255_1 : Int) =>
            mAnd (
              mBind (N_hyper_Simple x49_255_0 x49_255_1) fun r50_259 =>
              unA r50_259 fun x50_259l =>
              unC x50_259l fun x50_259v0 x50_259l0 =>
              unI .u64 x50_259v0 fun (x50_259_0 : Int) =>
              unC x50_259l0 fun x50_259v1 x50_259l1 =>
              unI .u64 x50_259v1 fun (x50_259_1 : Int) =>
              unE x50_259l1 <|
              mLdI .u64 b4 fun (x51_260_0 : Int) =>
              mLdI .u64 (b4.add 1) fun (x51_260_1 : Int) =>
              mBind (N_hyper_Simple x51_260_0 x51_260_1) fun r52_261 =>
              unA r52_261 fun x52_261l =>
              unC x52_261l fun x52_261v0 x52_261l0 =>
              unI .u64 x52_261v0 fun (x52_261_0 : Int) =>
              unC x52_261l0 fun x52_261v1 x52_261l1 =>
              unI .u64 x52_261v1 fun (x52_261_1 : Int) =>
              unE x52_261l1 <|
              mRet (.bool ((x50_259_0 == x52_261_0) && ((x50_259_1 == x52_261_1) && true)))) (
              mLdI .u64 b4 fun (x51_256_0 : Int) =>
              mLdI .u64 (b4.add 1) fun (x51_256_1 : Int) =>
              mBind (N_hyper_Simple x49_255_0 x49_255_1) fun r50_257 =>
              unA r50_257 fun x50_257l =>
              unC x50_257l fun x50_257v0 x50_257l0 =>
              unI .u64 x50_257v0 fun (x50_257_0 : Int) =>
              unC x50_257l0 fun x50_257v1 x50_257l1 =>
              unI .u64 x50_257v1 fun (x50_257_1 : Int) =>
              unE x50_257l1 <|
              mBind (N_hyper_Simple x51_256_0 x51_256_1) fun r52_258 =>
              unA r52_258 fun x52_258l =>
              unC x52_258l fun x52_258v0 x52_258l0 =>
              unI .u64 x52_258v0 fun (x52_258_0 : Int) =>
              unC x52_258l0 fun x52_258v1 x52_258l1 =>
              unI .u64 x52_258v1 fun (x52_258_1 : Int) =>
              unE x52_258l1 <|
              mRet (.bool ((x50_257_0 == x52_258_0) && ((x50_257_1 == x52_258_1) && true))))) (
            mLdI .u64 b4 fun (x51_251_0 : Int) =>
            mLdI .u64 (b4.add 1) fun (x51_251_1 : Int) =>
            mLdI .u64 a3 fun (x49_252_0 : Int) =>
            mLdI .u64 (a3.add 1) fun (x49_252_1 : Int) =>
            mBind (N_hyper_Simple x49_252_0 x49_252_1) fun r50_253 =>
            unA r50_253 fun x50_253l =>
            unC x50_253l fun x50_253v0 x50_253l0 =>
            unI .u64 x50_253v0 fun (x50_253_0 : Int) =>
            unC x50_253l0 fun x50_253v1 x50_253l1 =>
            unI .u64 x50_253v1 fun (x50_253_1 : Int) =>
            unE x50_253l1 <|
            mBind (N_hyper_Simple x51_251_0 x51_251_1) fun r52_254 =>
            unA r52_254 fun x52_254l =>
            unC x52_254l fun x52_254v0 x52_254l0 =>
            unI .u64 x52_254v0 fun (x52_254_0 : Int) =>
            unC x52_254l0 fun x52_254v1 x52_254l1 =>
            unI .u64 x52_254v1 fun (x52_254_1 : Int) =>
            unE x52_254l1 <|
            mRet (.bool ((x50_253_0 == x52_254_0) && ((x50_253_1 == x52_254_1) && true))))) (
          mAnd (
            mLdI .u64 a3 fun (x49_244_0 : Int) =>
            mLdI .u64 (a3.add 1) fun (x49_244_1 : Int) =>
            mAnd (
              mBind (N_hyper_Simple x49_244_0 x49_244_1) fun r50_248 =>
              unA r50_248 fun x50_248l =>
              unC x50_248l fun x50_248v0 x50_248l0 =>
              unI .u64 x50_248v0 fun (x50_248_0 : Int) =>
              unC x50_248l0 fun x50_248v1 x50_248l1 =>
              unI .u64 x50_248v1 fun (x50_248_1 : Int) =>
              unE x50_248l1 <|
              mLdI .u64 b4 fun (x51_249_0 : Int) =>
              mLdI .u64 (b4.add 1) fun (x51_249_1 : Int) =>
              mBind (N_hyper_Simple x51_249_0 x51_249_1) fun r52_250 =>
              unA r52_250 fun x52_250l =>
              unC x52_250l fun x52_250v0 x52_250l0 =>
              unI .u64 x52_250v0 fun (x52_250_0 : Int) =>
              unC x52_250l0 fun x52_250v1 x52_250l1 =>
              unI .u64 x52_250v1 fun (x52_250_1 : Int) =>
              unE x52_250l1 <|
              mRet (.bool ((x50_248_0 == x52_250_0) && ((x50_248_1 == x52_250_1) && true)))) (
              mLdI .u64 b4 fun (x51_245_0 : Int) =>
              mLdI .u64 (b4.add 1) fun (x51_245_1 : Int) =>
              mBind (N_hyper_Simple x49_244_0 x49_244_1) fun r50_246 =>
              unA r50_246 fun x50_246l =>
              unC x50_246l fun x50_246v0 x50_246l0 =>
              unI .u64 x50_246v0 fun (x50_246_0 : Int) =>
              unC x50_246l0 fun x50_246v1 x50_246l1 =>
              unI .u64 x50_246v1 fun (x50_246_1 : Int) =>
              unE x50_246l1 <|
              mBind (N_hyper_Simple x51_245_0 x51_245_1) fun r52_247 =>
              unA r52_247 fun x52_247l =>
              unC x52_247l fun x52_247v0 x52_247l0 =>
              unI .u64 x52_247v0 fun (x52_247_0 : Int) =>
              unC x52_247l0 fun x52_247v1 x52_247l1 =>
              unI .u64 x52_247v1 fun (x52_247_1 : Int) =>
              unE x52_247l1 <|
              mRet (.bool ((x50_246_0 == x52_247_0) && ((x50_246_1 == x52_247_1) && true))))) (
            mLdI .u64 b4 fun (x51_240_0 : Int) =>
            mLdI .u64 (b4.add 1) fun (x51_240_1 : Int) =>
            mLdI .u64 a3 fun (x49_241_0 : Int) =>
            mLdI .u64 (a3.add 1) fun (x49_241_1 : Int) =>
            mBind (N_hyper_Simple x49_241_0 x49_241_1) fun r50_242 =>
            unA r50_242 fun x50_242l =>
            unC x50_242l fun x50_242v0 x50_242l0 =>
            unI .u64 x50_242v0 fun (x50_242_0 : Int) =>
            unC x50_242l0 fun x50_242v1 x50_242l1 =>
            unI .u64 x50_242v1 fun (x50_242_1 : Int) =>
            unE x50_242l1 <|
            mBind (N_hyper_Simple x51_240_0 x51_240_1) fun r52_243 =>
            unA r52_243 fun x52_243l =>
            unC x52_243l fun x52_243v0 x52_243l0 =>
            unI .u64 x52_243v0 fun (x52_243_0 : Int) =>
            unC x52_243l0 fun x52_243v1 x52_243l1 =>
            unI .u64 x52_243v1 fun (x52_243_1 : Int) =>
            unE x52_243l1 <|
            mRet (.bool ((x50_242_0 == x52_243_0) && ((x50_242_1 == x52_243_1) && true)))))) (
        mAnd (
          mAnd (
            mLdI .u64 a3 fun (x49_233_0 : Int) =>
            mLdI .u64 (a3.add 1) fun (x49_233_1 : Int) =>
            mAnd (
              mBind (N_hyper_Simple x49_233_0 x49_233_1) fun r50_237 =>
              unA r50_237 fun x50_237l =>
              unC x50_237l fun x50_237v0 x50_237l0 =>
              unI .u64 x50_237v0 fun (x50_237_0 : Int) =>
              unC x50_237l0 fun x50_237v1 x50_237l1 =>
              unI .u64 x50_237v1 fun (x50_237_1 : Int) =>
              unE x50_237l1 <|
              mLdI .u64 b4 fun (x51_238_0 : Int) =>
              mLdI .u64 (b4.add 1) fun (x51_238_1 : Int) =>
              mBind (N_hyper_Simple x51_238_0 x51_238_1) fun r52_239 =>
              unA r52_239 fun x52_239l =>
              unC x52_239l fun x52_239v0 x52_239l0 =>
              unI .u64 x52_239v0 fun (x52_239_0 : Int) =>
              unC x52_239l0 fun x52_239v1 x52_239l1 =>
              unI .u64 x52_239v1 fun (x52_239_1 : Int) =>
              unE x52_239l1 <|
              mRet (.bool ((x50_237_0 == x52_239_0) && ((x50_237_1 == x52_239_1) && true)))) (
              mLdI .u64 b4 fun (x51_234_0 : Int) =>
              mLdI .u64 (b4.add 1) fun (x51_234_1 : Int) =>
              mBind (N_hyper_Simple x49_233_0 x49_233_1) fun r50_235 =>
              unA r50_235 fun x50_235l =>
              unC x50_235l fun x50_235v0 x50_235l0 =>
              unI .u64 x50_235v0 fun (x50_235_0 : Int) =>
              unC x50_235l0 fun x50_235v1 x50_235l1 =>
              unI .u64 x50_235v1 fun (x50_235_1 : Int) =>
              unE x50_235l1 <|
              mBind (N_hyper_Simple x51_234_0 x51_234_1) fun r52_236 =>
              unA r52_236 fun x52_236l =>
              unC x52_236l fun x52_236v0 x52_236l0 =>
              unI .u64 x52_236v0 fun (x52_236_0 : Int) =>
              unC x52_236l0 fun x52_236v1 x52_236l1 =>
              unI .u64 x52_236v1 fun (x52_236_1 : Int) =>
              unE x52_236l1 <|
              mRet (.bool ((x50_235_0 == x52_236_0) && ((x50_235_1 == x52_236_1) && true))))) (
            mLdI .u64 b4 fun (x51_229_0 : Int) =>
            mLdI .u64 (b4.add 1) fun (x51_229_1 : Int) =>
            mLdI .u64 a3 fun (x49_230_0 : Int) =>
            mLdI .u64 (a3.add 1) fun (x49_230_1 : Int) =>
            mBind (N_hyper_Simple x49_230_0 x49_230_1) fun r50_231 =>
            unA r50_231 fun x50_231l =>
            unC x50_231l fun x50_231v0 x50_231l0 =>
            unI .u64 x50_231v0 fun (x50_231_0 : Int) =>
            unC x50_231l0 fun x50_231v1 x50_231l1 =>
            unI .u64 x50_231v1 fun (x50_231_1 : Int) =>
            unE x50_231l1 <|
            mBind (N_hyper_Simple x51_229_0 x51_229_1) fun r52_232 =>
            unA r52_232 fun x52_232l =>
            unC x52_232l fun x52_232v0 x52_232l0 =>
            unI .u64 x52_232v0 fun (x52_232_0 : Int) =>
            unC x52_232l0 fun x52_232v1 x52_232l1 =>
            unI .u64 x52_232v1 fun (x52_232_1 : Int) =>
            unE x52_232l1 <|
            mRet (.bool ((x50_231_0 == x52_232_0) && ((x50_231_1 == x52_232_1) && true))))) (
          mAnd (
            mLdI .u64 a3 fun (x49_222_0 : Int) =>
            mLdI .u64 (a3.add 1) fun (x49_222_1 : Int) =>
            mAnd (
              mBind (N_hyper_Simple x49_222_0 x49_222_1) fun r50_226 =>
              unA r50_226 fun x50_226l =>
              unC x50_226l fun x50_226v0 x50_226l0 =>
              unI .u64 x50_226v0 fun (x50_226_0 : Int) =>
              unC x50_226l0 fun x50_226v1 x50_226l1 =>
              unI .u64 x50_226v1 fun (x50_226_1 : Int) =>
              unE x50_226l1 <|
              mLdI .u64 b4 fun (x51_227_0 : Int) =>
              mLdI .u64 (b4.add 1) fun (x51_227_1 : Int) =>
              mBind (N_hyper_Simple x51_227_0 x51_227_1) fun r52_228 =>
              unA r52_228 fun x52_228l =>
              unC x52_228l fun x52_228v0 x52_228l0 =>
              unI .u64 x52_228v0 fun (x52_228_0 : Int) =>
              unC x52_228l0 fun x52_228v1 x52_228l1 =>
              unI .u64 x52_228v1 fun (x52_228_1 : Int) =>
              unE x52_228l1 <|
              mRet (.bool ((x50_226_0 == x52_228_0) && ((x50_226_1 == x52_228_1) && true)))) (
              mLdI .u64 b4 fun (x51_223_0 : Int) =>
              mLdI .u64 (b4.add 1) fun (x51_223_1 : Int) =>
              mBind (N_hyper_Simple x49_222_0 x49_222_1) fun r50_224 =>
              unA r50_224 fun x50_224l =>
              unC x50_224l fun x50_224v0 x50_224l0 =>
              unI .u64 x50_224v0 fun (x50_224_0 : Int) =>
              unC x50_224l0 fun x50_224v1 x50_224l1 =>
              unI .u64 x50_224v1 fun (x50_224_1 : Int) =>
              unE x50_224l1 <|
              mBind (N_hyper_Simple x51_223_0 x51_223_1) fun r52_225 =>
              unA r52_225 fun x52_225l =>
              unC x52_225l fun x52_225v0 x52_225l0 =>
              unI .u64 x52_225v0 fun (x52_225_0 : Int) =>
              unC x52_225l0 fun x52_225v1 x52_225l1 =>
              unI .u64 x52_225v1 fun (x52_225_1 : Int) =>
              unE x52_225l1 <|
              mRet (.bool ((x50_224_0 == x52_225_0) && ((x50_224_1 == x52_225_1) && true))))) (
            mLdI .u64 b4 fun (x51_0 : Int) =>
            mLdI .u64 (b4.add 1) fun (x51_1 : Int) =>
            mLdI .u64 a3 fun (x49_0 : Int) =>
            mLdI .u64 (a3.add 1) fun (x49_1 : Int) =>
            mBind (N_hyper_Simple x49_0 x49_1) fun r50 =>
            unA r50 fun x50l =>
            unC x50l fun x50v0 x50l0 =>
            unI .u64 x50v0 fun (x50_0 : Int) =>
            unC x50l0 fun x50v1 x50l1 =>
            unI .u64 x50v1 fun (x50_1 : Int) =>
            unE x50l1 <|
            mBind (N_hyper_Simple x51_0 x51_1) fun r52 =>
            unA r52 fun x52l =>
            unC x52l fun x52v0 x52l0 =>
            unI .u64 x52v0 fun (x52_0 : Int) =>
            unC x52l0 fun x52v1 x52l1 =>
            unI .u64 x52v1 fun (x52_1 : Int) =>
            unE x52l1 <|
            mRet (.bool ((x50_0 == x52_0) && ((x50_1 == x52_1) && true))))))) (
      mAnd (
        mAnd (
          mAnd (
            mAnd (
              mRet (.bool false)) (
              mRet (.bool false))) (
            mRet (.bool false))) (
          mAnd (
            mAnd (
              mRet (.bool false)) (
              mRet (.bool false))) (
            mRet (.bool false)))) (
        mAnd (
          mAnd (
            mAnd (
              mRet (.bool false)) (
              mRet (.bool false))) (
            mRet (.bool false))) (
          mAnd (
            mAnd (
              mRet (.bool false)) (
              mRet (.bool false))) (
            mRet (.bool false))))))
theorem E_signalboxlaw32_HyperOrders (a0_0 : Int) (a0_1 : Int) (b1_0 : Int) (b1_1 : Int) (c2_0 : Int) (c2_1 : Int) : ev Try.prog 6 Try.f6.results.toList C_signalboxlaw32_HyperOrders D_signalboxlaw32_HyperOrders 400 false [.code (bodyOf Try.f6)] (List.map some [.agg #[.int .u64 a0_0, .int .u64 a0_1], .agg #[.int .u64 b1_0, .int .u64 b1_1], .agg #[.int .u64 c2_0, .int .u64 c2_1]] ++ List.replicate (Try.f6.ntmps - List.length ([.agg #[.int .u64 a0_0, .int .u64 a0_1], .agg #[.int .u64 b1_0, .int .u64 b1_1], .agg #[.int .u64 c2_0, .int .u64 c2_1]] : List Value)) none) = B_signalboxlaw32_HyperOrders a0_0 a0_1 b1_0 b1_1 c2_0 c2_1 := by kernel_rfl
theorem S_signalboxlaw32_HyperOrders (a0_0 : Int) (a0_1 : Int) (b1_0 : Int) (b1_1 : Int) (c2_0 : Int) (c2_1 : Int) {h : Hp} {Q : Value → Hp → Prop} (hb : B_signalboxlaw32_HyperOrders a0_0 a0_1 b1_0 b1_1 c2_0 c2_1 h Q) : N_signalboxlaw32_HyperOrders a0_0 a0_1 b1_0 b1_1 c2_0 c2_1 h Q :=
  Nf.of_ev Try.call6 Try.func6 (c := bodyOf Try.f6) rfl mixed C_signalboxlaw32_HyperOrders D_signalboxlaw32_HyperOrders 400 (args := [.agg #[.int .u64 a0_0, .int .u64 a0_1], .agg #[.int .u64 b1_0, .int .u64 b1_1], .agg #[.int .u64 c2_0, .int .u64 c2_1]]) (by rw [E_signalboxlaw32_HyperOrders]; exact hb)
theorem E_signalboxlaw32_HyperOrders_4_tt (a3 : Addr) (b4 : Addr) (c5 : Addr) : ev Try.prog 6 Try.f6.results.toList C_signalboxlaw32_HyperOrders D_signalboxlaw32_HyperOrders 400 true (todoOf Try.f6 4) (T_signalboxlaw32_HyperOrders_4 a3 b4 c5 true true) = B_signalboxlaw32_HyperOrders_4_tt a3 b4 c5 := by kernel_rfl
theorem S_signalboxlaw32_HyperOrders_4_tt (a3 : Addr) (b4 : Addr) (c5 : Addr) {h : Hp} {Q : Value → Hp → Prop} (hb : B_signalboxlaw32_HyperOrders_4_tt a3 b4 c5 h Q) : K_signalboxlaw32_HyperOrders_4 a3 b4 c5 true true h Q :=
  Cut.of_ev Try.func6 mixed C_signalboxlaw32_HyperOrders D_signalboxlaw32_HyperOrders 400 (by rw [E_signalboxlaw32_HyperOrders_4_tt]; exact hb)
theorem E_signalboxlaw32_HyperOrders_4_tf (a3 : Addr) (b4 : Addr) (c5 : Addr) : ev Try.prog 6 Try.f6.results.toList C_signalboxlaw32_HyperOrders D_signalboxlaw32_HyperOrders 400 true (todoOf Try.f6 4) (T_signalboxlaw32_HyperOrders_4 a3 b4 c5 true false) = B_signalboxlaw32_HyperOrders_4_tf a3 b4 c5 := by kernel_rfl
theorem S_signalboxlaw32_HyperOrders_4_tf (a3 : Addr) (b4 : Addr) (c5 : Addr) {h : Hp} {Q : Value → Hp → Prop} (hb : B_signalboxlaw32_HyperOrders_4_tf a3 b4 c5 h Q) : K_signalboxlaw32_HyperOrders_4 a3 b4 c5 true false h Q :=
  Cut.of_ev Try.func6 mixed C_signalboxlaw32_HyperOrders D_signalboxlaw32_HyperOrders 400 (by rw [E_signalboxlaw32_HyperOrders_4_tf]; exact hb)
theorem E_signalboxlaw32_HyperOrders_4_ft (a3 : Addr) (b4 : Addr) (c5 : Addr) : ev Try.prog 6 Try.f6.results.toList C_signalboxlaw32_HyperOrders D_signalboxlaw32_HyperOrders 400 true (todoOf Try.f6 4) (T_signalboxlaw32_HyperOrders_4 a3 b4 c5 false true) = B_signalboxlaw32_HyperOrders_4_ft a3 b4 c5 := by kernel_rfl
theorem S_signalboxlaw32_HyperOrders_4_ft (a3 : Addr) (b4 : Addr) (c5 : Addr) {h : Hp} {Q : Value → Hp → Prop} (hb : B_signalboxlaw32_HyperOrders_4_ft a3 b4 c5 h Q) : K_signalboxlaw32_HyperOrders_4 a3 b4 c5 false true h Q :=
  Cut.of_ev Try.func6 mixed C_signalboxlaw32_HyperOrders D_signalboxlaw32_HyperOrders 400 (by rw [E_signalboxlaw32_HyperOrders_4_ft]; exact hb)
theorem E_signalboxlaw32_HyperOrders_4_ff (a3 : Addr) (b4 : Addr) (c5 : Addr) : ev Try.prog 6 Try.f6.results.toList C_signalboxlaw32_HyperOrders D_signalboxlaw32_HyperOrders 400 true (todoOf Try.f6 4) (T_signalboxlaw32_HyperOrders_4 a3 b4 c5 false false) = B_signalboxlaw32_HyperOrders_4_ff a3 b4 c5 := by kernel_rfl
theorem S_signalboxlaw32_HyperOrders_4_ff (a3 : Addr) (b4 : Addr) (c5 : Addr) {h : Hp} {Q : Value → Hp → Prop} (hb : B_signalboxlaw32_HyperOrders_4_ff a3 b4 c5 h Q) : K_signalboxlaw32_HyperOrders_4 a3 b4 c5 false false h Q :=
  Cut.of_ev Try.func6 mixed C_signalboxlaw32_HyperOrders D_signalboxlaw32_HyperOrders 400 (by rw [E_signalboxlaw32_HyperOrders_4_ff]; exact hb)
end Go.Proofs.Ytbpnpmknamghkaa
